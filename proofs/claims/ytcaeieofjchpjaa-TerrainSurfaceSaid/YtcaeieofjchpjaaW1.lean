import Derived.Test.YtcaeieofjchpjaaTab
import Derived.Test.YtcaeieofjchpjaaM
set_option linter.unusedVariables false
set_option maxRecDepth 100000
set_option maxHeartbeats 4000000
namespace Go.Proofs.Ytcaeieofjchpjaa
open Go.E Go.RowKit
attribute [local irreducible] Go.E.WO Go.E.WK
theorem terrain_Check_c1_walk {m : Mu} {p0 : Int}   {r : Bool} (hm : terrain_Check_c1 p0 = some r) :
    Go.E.Spec Try.prog 47 [.int .i64 p0] m (fun v _ _ => v = .bool r) := by
  refine Spec_enter Try.func47 rfl rfl rfl (fun w0 => ?_)
  refine WK.sub (e' := [(0, .int .i64 p0)]) ⟨rfl, trivial⟩ ?_
  refine WK.sub (e' := [(0, .int .i64 p0)]) ⟨rfl, trivial⟩ ?_
  unfold terrain_Check_c1 at hm
  refine WK_seq ?_
  refine WK_region ?_
  refine WO_pure tbok 1 [(0, .int .i64 p0), (2, .bool false)] rfl ⟨rfl, rfl, trivial⟩ ?_
  refine WO_end ?_
  refine WK_seq ?_
  refine WK_region ?_
  refine WO_pure tbok 3 [(0, .int .i64 p0), (2, .bool false), (5, .bool (decide (2 ≤ p0)))] rfl ⟨rfl, rfl, rfl, trivial⟩ ?_
  refine WO_split (d := 5) (b := decide (2 ≤ p0)) rfl (fun hb1 => ?_) (fun hb1 => ?_)
  · have hm := ifT hb1 hm
    refine WO_pure tbok 4 [(2, .bool (decide (p0 ≤ 64)))] rfl ⟨rfl, trivial⟩ ?_
    refine WO_end ?_
    cases hm
    exact WK_ret (ret_out (L := []) (RLc_tmp rfl RLc_nil) (List.nil_sublist _) rfl)
  · have hm := ifF hb1 hm
    refine WO_pure tbok 4 [(2, .bool false)] rfl ⟨rfl, trivial⟩ ?_
    refine WO_end ?_
    cases hm
    exact WK_ret (ret_out (L := []) (RLc_tmp rfl RLc_nil) (List.nil_sublist _) rfl)
theorem terrain_far_walk {m : Mu} {p0 : Int}   {r : Bool} (hm : terrain_far p0 = some r) :
    Go.E.Spec Try.prog 41 [.int .i64 p0] m (fun v _ _ => v = .bool r) := by
  refine Spec_enter Try.func41 rfl rfl rfl (fun w0 => ?_)
  refine WK.sub (e' := [(0, .int .i64 p0)]) ⟨rfl, trivial⟩ ?_
  refine WK.sub (e' := [(0, .int .i64 p0)]) ⟨rfl, trivial⟩ ?_
  unfold terrain_far at hm
  refine WK_seq ?_
  refine WK_region ?_
  refine WO_pure tbok 1 [(0, .int .i64 p0), (2, .bool false)] rfl ⟨rfl, rfl, trivial⟩ ?_
  refine WO_end ?_
  refine WK_seq ?_
  refine WK_region ?_
  refine WO_pure tbok 3 [(0, .int .i64 p0), (2, .bool false), (5, .bool (decide (p0 < (-1048576))))] rfl ⟨rfl, rfl, rfl, trivial⟩ ?_
  refine WO_split (d := 5) (b := decide (p0 < (-1048576))) rfl (fun hb1 => ?_) (fun hb1 => ?_)
  · have hm := ifT hb1 hm
    refine WO_pure tbok 4 [(2, .bool true)] rfl ⟨rfl, trivial⟩ ?_
    refine WO_end ?_
    cases hm
    exact WK_ret (ret_out (L := []) (RLc_tmp rfl RLc_nil) (List.nil_sublist _) rfl)
  · have hm := ifF hb1 hm
    refine WO_pure tbok 4 [(2, .bool (decide (1048576 < p0)))] rfl ⟨rfl, trivial⟩ ?_
    refine WO_end ?_
    cases hm
    exact WK_ret (ret_out (L := []) (RLc_tmp rfl RLc_nil) (List.nil_sublist _) rfl)
theorem slices_IndexFunc_sint_walk {m : Mu} {p0 : List Int} {p1 : Int → Option Bool} {a_p0 : Option Addr} {q_p0 c_p0 : Nat} {p1v : Value} (h_p0 : SlR (FE (I1 .i64)) 1 m (.slice a_p0 q_p0 c_p0) p0) (hp1 : ∀ (m1 : Mu), Le m m1 → ∀ (u1 : Int), ∀ (r : Bool), p1 u1 = some r → SpecV Try.prog p1v [.int .i64 u1] m1 (fun v _ _ => v = .bool r)) {r : Int} (hm : slices_IndexFunc_sint p0 p1 = some r) :
    Go.E.Spec Try.prog 59 [.slice a_p0 q_p0 c_p0, p1v] m (fun v _ _ => v = .int .i64 r) := by
  refine Spec_enter Try.func59 rfl rfl rfl (fun w0 => ?_)
  refine WK.sub (e' := [(0, .slice a_p0 q_p0 c_p0), (1, p1v)]) ⟨rfl, rfl, trivial⟩ ?_
  obtain rfl := SlR.qlen h_p0
  refine WK.sub (e' := [(0, .slice a_p0 p0.length c_p0), (1, p1v)]) ⟨rfl, rfl, trivial⟩ ?_
  unfold slices_IndexFunc_sint at hm
  refine WK_seq ?_
  refine WK_region ?_
  refine WO_pure tbok 1 [(0, .slice a_p0 p0.length c_p0), (1, p1v), (4, .int .i64 0)] rfl ⟨rfl, rfl, rfl, trivial⟩ ?_
  refine WO_end ?_
  refine WK_seq ?_
  refine WK_seq ?_
  refine WK_region ?_
  refine WO_pure tbok 3 [(0, .slice a_p0 p0.length c_p0), (1, p1v), (4, .int .i64 0), (7, .int .i64 (p0.length : Int)), (8, .int .i64 0)] rfl ⟨rfl, rfl, rfl, rfl, rfl, trivial⟩ ?_
  refine WO_end ?_
  obtain ⟨x2, hx3, hm⟩ := bind_some hm
  refine WK_join (β := Unit × Unit) (fun p => Sum.inr p.1 = x2) (fun p => [(4, .int .i64 0)]) (fun p => St w0 m m []) ?_ (fun hk4 => ?_)
  · rintro ⟨⟨⟩, ⟨⟩⟩ hq10
    subst hq10
    refine WK.sub (e' := [(4, .int .i64 0)]) ⟨rfl, trivial⟩ (WK.cls (C' := St w0 m m []) (fun _ h => h) ?_)
    refine WK_seq ?_
    refine WK_region ?_
    refine WO_pure tbok 1 [(4, .int .i64 (-1))] rfl ⟨rfl, trivial⟩ ?_
    refine WO_end ?_
    cases hm
    exact WK_ret (ret_out (L := []) (RLc_tmp rfl RLc_nil) (List.nil_sublist _) rfl)
  · refine WK_block ?_
    refine WK_loop (S := Int) (G := Unit) (fun s => slices_IndexFunc_sint_s1 p0 p1 s) (fun s g => [(0, .slice a_p0 p0.length c_p0), (1, p1v), (4, .int .i64 0), (7, .int .i64 (p0.length : Int)), (8, .int .i64 s)]) (fun s g => St w0 m m []) (fun s g => True) FUEL 0 () x2 hx3 trivial ⟨rfl, rfl, rfl, rfl, rfl, trivial⟩ (fun _ h => h) ?_
    rintro s_1 ⟨⟩ o6 fl7 hm5 - hn8 hd9
    have hm5 : slices_IndexFunc_sint_s1 p0 p1 s_1 = some o6 := hm5
    unfold slices_IndexFunc_sint_s1 at hm5
    refine WK.sub (e' := [(0, .slice a_p0 p0.length c_p0), (1, p1v), (4, .int .i64 0), (7, .int .i64 (p0.length : Int)), (8, .int .i64 s_1)]) ⟨rfl, rfl, rfl, rfl, rfl, trivial⟩ (WK.cls (C' := St w0 m m []) (fun _ h => h) ?_)
    refine WK_seq ?_
    refine WK_region ?_
    refine WO_pure tbok 1 [(0, .slice a_p0 p0.length c_p0), (1, p1v), (4, .int .i64 0), (7, .int .i64 (p0.length : Int)), (8, .int .i64 s_1), (9, .bool (decide (s_1 < (p0.length : Int))))] rfl ⟨rfl, rfl, rfl, rfl, rfl, rfl, trivial⟩ ?_
    refine WO_end ?_
    refine WK_seq ?_
    refine WK_cond (b := decide (s_1 < (p0.length : Int))) rfl (fun hb11 => ?_) (fun hb11 => ?_)
    · have hm5 := ifT hb11 hm5
      refine WK_skip ?_
      refine WK_seq ?_
      refine WK_block ?_
      refine WK_seq ?_
      refine WK_region ?_
      refine WO_pure tbok 2 [(0, .slice a_p0 p0.length c_p0), (1, p1v), (4, .int .i64 0), (5, .int .i64 s_1), (7, .int .i64 (p0.length : Int)), (8, .int .i64 s_1)] rfl ⟨rfl, rfl, rfl, rfl, rfl, rfl, trivial⟩ ?_
      refine WO_end ?_
      refine WK_seq ?_
      refine WK_region ?_
      refine WO_pure tbok 3 [(0, .slice a_p0 p0.length c_p0), (1, p1v), (4, .int .i64 0), (5, .int .i64 s_1), (7, .int .i64 (p0.length : Int)), (8, .int .i64 s_1), (11, p1v), (12, .slice a_p0 p0.length c_p0), (13, .int .i64 s_1)] rfl ⟨rfl, rfl, rfl, rfl, rfl, rfl, rfl, rfl, rfl, trivial⟩ ?_
      obtain ⟨v_2, hy12, hm5⟩ := bind_some hm5
      obtain ⟨hc13, hy12⟩ := ix_some hy12
      refine WO_index tbok rfl rfl rfl rfl rfl rfl rfl rfl (SlR.addr h_p0) hc13 ?_
      refine WO_loadE tbok rfl rfl rfl rfl (fun _ h => St.sat h) h_p0 hy12 rfl ?_
      obtain ⟨y_3, hc14, hm5⟩ := bind_some hm5
      obtain ⟨f0, first0, cap0, hf0, hcal0, hsp0⟩ := hp1 _ (Le.refl _) v_2 _ hc14
      refine WO_call0 (.bool y_3) rfl rfl trivial rfl rfl rfl rfl St_closed ⟨f0, first0, cap0, hf0, hcal0, fun w hw => ⟨m, hw.sat, hsp0⟩⟩ ?_
      refine WO_end ?_
      refine WK_cond (b := y_3) rfl (fun hb15 => ?_) (fun hb15 => ?_)
      · have hm5 := ifT hb15 hm5
        refine WK_seq ?_
        refine WK_region ?_
        refine WO_pure tbok 2 [(0, .slice a_p0 p0.length c_p0), (1, p1v), (4, .int .i64 s_1), (7, .int .i64 (p0.length : Int)), (8, .int .i64 s_1)] rfl ⟨rfl, rfl, rfl, rfl, rfl, trivial⟩ ?_
        refine WO_end ?_
        cases hm5
        have hq := hd9 _ rfl
        subst hq
        have hm : some _ = some _ := hm
        cases hm
        exact WK_ret (ret_out (L := []) (RLc_tmp rfl RLc_nil) (List.nil_sublist _) rfl)
      · have hm5 := ifF hb15 hm5
        refine WK_skip ?_
        refine WK_blk ?_
        refine WK_region ?_
        refine WO_pure tbok 2 [(0, .slice a_p0 p0.length c_p0), (1, p1v), (4, .int .i64 0), (7, .int .i64 (p0.length : Int)), (8, .int .i64 (w64 (s_1 + 1)))] rfl ⟨rfl, rfl, rfl, rfl, rfl, trivial⟩ ?_
        refine WO_end ?_
        cases hm5
        refine WK.sub ?_ (WK.cls (fun _ h => h) (hn8 _ () rfl trivial))
        exact ⟨rfl, rfl, rfl, rfl, rfl, trivial⟩
    · have hm5 := ifF hb11 hm5
      refine WK_exit rfl ?_
      cases hm5
      refine WK.sub ?_ (WK.cls (fun _ h => h) (hk4 ((), ()) (hd9 _ rfl)))
      exact ⟨rfl, trivial⟩
theorem slices_ContainsFunc_sint_walk {m : Mu} {p0 : List Int} {p1 : Int → Option Bool} {a_p0 : Option Addr} {q_p0 c_p0 : Nat} {p1v : Value} (h_p0 : SlR (FE (I1 .i64)) 1 m (.slice a_p0 q_p0 c_p0) p0) (hp1 : ∀ (m1 : Mu), Le m m1 → ∀ (u1 : Int), ∀ (r : Bool), p1 u1 = some r → SpecV Try.prog p1v [.int .i64 u1] m1 (fun v _ _ => v = .bool r)) {r : Bool} (hm : slices_ContainsFunc_sint p0 p1 = some r) :
    Go.E.Spec Try.prog 48 [.slice a_p0 q_p0 c_p0, p1v] m (fun v _ _ => v = .bool r) := by
  refine Spec_enter Try.func48 rfl rfl rfl (fun w0 => ?_)
  refine WK.sub (e' := [(0, .slice a_p0 q_p0 c_p0), (1, p1v)]) ⟨rfl, rfl, trivial⟩ ?_
  obtain rfl := SlR.qlen h_p0
  refine WK.sub (e' := [(0, .slice a_p0 p0.length c_p0), (1, p1v)]) ⟨rfl, rfl, trivial⟩ ?_
  unfold slices_ContainsFunc_sint at hm
  refine WK_seq ?_
  refine WK_region ?_
  refine WO_pure tbok 1 [(0, .slice a_p0 p0.length c_p0), (1, p1v), (4, .bool false)] rfl ⟨rfl, rfl, rfl, trivial⟩ ?_
  refine WO_end ?_
  refine WK_seq ?_
  refine WK_region ?_
  refine WO_pure tbok 2 [(4, .bool false), (5, .slice a_p0 p0.length c_p0), (6, p1v)] rfl ⟨rfl, rfl, rfl, trivial⟩ ?_
  obtain ⟨y_1, hc2, hm⟩ := bind_some hm
  refine WO_call0 (.int .i64 y_1) rfl rfl trivial rfl rfl rfl rfl St_closed ⟨59, #[], #[], rfl, callable_59, fun w hw => ⟨_, hw.sat, slices_IndexFunc_sint_walk h_p0 hp1 hc2⟩⟩ ?_
  refine WO_pure tbok 2 [(4, .bool (decide (0 ≤ y_1)))] rfl ⟨rfl, trivial⟩ ?_
  refine WO_end ?_
  cases hm
  exact WK_ret (ret_out (L := []) (RLc_tmp rfl RLc_nil) (List.nil_sublist _) rfl)
theorem terrain_Check_c2_walk {m : Mu} {p0 : Int}   {r : Bool} (hm : terrain_Check_c2 p0 = some r) :
    Go.E.Spec Try.prog 49 [.int .i64 p0] m (fun v _ _ => v = .bool r) := by
  refine Spec_enter Try.func49 rfl rfl rfl (fun w0 => ?_)
  refine WK.sub (e' := [(0, .int .i64 p0)]) ⟨rfl, trivial⟩ ?_
  refine WK.sub (e' := [(0, .int .i64 p0)]) ⟨rfl, trivial⟩ ?_
  unfold terrain_Check_c2 at hm
  refine WK_seq ?_
  refine WK_region ?_
  refine WO_pure tbok 1 [(0, .int .i64 p0), (2, .bool false)] rfl ⟨rfl, rfl, trivial⟩ ?_
  refine WO_end ?_
  refine WK_seq ?_
  refine WK_region ?_
  refine WO_pure tbok 3 [(0, .int .i64 p0), (2, .bool false), (5, .bool (p0 != (-2147483648)))] rfl ⟨rfl, rfl, rfl, trivial⟩ ?_
  refine WO_split (d := 5) (b := p0 != (-2147483648)) rfl (fun hb1 => ?_) (fun hb1 => ?_)
  · have hm := ifT hb1 hm
    refine WO_pure tbok 1 [(2, .bool false), (5, .bool true), (6, .int .i64 p0)] rfl ⟨rfl, rfl, rfl, trivial⟩ ?_
    obtain ⟨y_1, hc2, hm⟩ := bind_some hm
    refine WO_call0 (.bool y_1) rfl rfl trivial rfl rfl rfl rfl St_closed ⟨41, #[], #[], rfl, callable_41, fun w hw => ⟨_, hw.sat, terrain_far_walk hc2⟩⟩ ?_
    refine WO_pure tbok 2 [(2, .bool y_1)] rfl ⟨rfl, trivial⟩ ?_
    refine WO_end ?_
    cases hm
    exact WK_ret (ret_out (L := []) (RLc_tmp rfl RLc_nil) (List.nil_sublist _) rfl)
  · have hm := ifF hb1 hm
    refine WO_pure tbok 1 [(2, .bool false), (5, .bool false)] rfl ⟨rfl, rfl, trivial⟩ ?_
    refine WO_skip rfl rfl ?_
    refine WO_pure tbok 2 [(2, .bool false)] rfl ⟨rfl, trivial⟩ ?_
    refine WO_end ?_
    cases hm
    exact WK_ret (ret_out (L := []) (RLc_tmp rfl RLc_nil) (List.nil_sublist _) rfl)
theorem terrain_Check_walk {m : Mu} {p0_0 : Int} {p0_1 : Int} {p0_2 : Int} {p0_3 : Int} {p0_4 : Int} {p0_5 : List Int} {a_p0_5 : Option Addr} {q_p0_5 c_p0_5 : Nat} (h_p0_5 : SlR (FE (I1 .i64)) 1 m (.slice a_p0_5 q_p0_5 c_p0_5) p0_5) {r : Int} (hm : terrain_Check p0_0 p0_1 p0_2 p0_3 p0_4 p0_5 = some r) :
    Go.E.Spec Try.prog 16 [.agg #[.int .i64 p0_0, .int .i64 p0_1, .int .i64 p0_2, .int .i64 p0_3, .int .i64 p0_4, .slice a_p0_5 q_p0_5 c_p0_5]] m (fun v _ _ => v = .int .i64 r) := by
  refine Spec_enter Try.func16 rfl rfl rfl (fun w0 => ?_)
  refine WK.sub (e' := [(0, .agg #[.int .i64 p0_0, .int .i64 p0_1, .int .i64 p0_2, .int .i64 p0_3, .int .i64 p0_4, .slice a_p0_5 q_p0_5 c_p0_5])]) ⟨rfl, trivial⟩ ?_
  obtain rfl := SlR.qlen h_p0_5
  refine WK.sub (e' := [(0, .agg #[.int .i64 p0_0, .int .i64 p0_1, .int .i64 p0_2, .int .i64 p0_3, .int .i64 p0_4, .slice a_p0_5 p0_5.length c_p0_5])]) ⟨rfl, trivial⟩ ?_
  unfold terrain_Check at hm
  refine WK_seq ?_
  refine WK_region ?_
  refine WO_box [.int .i64 p0_0, .int .i64 p0_1, .int .i64 p0_2, .int .i64 p0_3, .int .i64 p0_4, .slice a_p0_5 p0_5.length c_p0_5] rfl rfl trivial rfl rfl rfl (fun b2 => ?_)
  refine WO.cls (C' := St w0 m m [[⟨b2, 25, [.int .i64 p0_0, .int .i64 p0_1, .int .i64 p0_2, .int .i64 p0_3, .int .i64 p0_4, .slice a_p0_5 p0_5.length c_p0_5]⟩]]) (fun _ h => h) ?_
  refine WO_pure tbok 1 [(1, .pointer (some ⟨b2, 0, none⟩)), (2, .int .i64 0)] rfl ⟨rfl, rfl, trivial⟩ ?_
  refine WO_end ?_
  refine WK_seq ?_
  refine WK_region ?_
  refine WO_pure tbok 1 [(1, .pointer (some ⟨b2, 0, none⟩)), (2, .int .i64 0), (3, .func (.func 47) #[] #[])] rfl ⟨rfl, rfl, rfl, trivial⟩ ?_
  refine WO_end ?_
  refine WK_seq ?_
  refine WK_seq ?_
  obtain ⟨s_1, hx3, hm⟩ := bind_some hm
  refine WK_meet [(1, .pointer (some ⟨b2, 0, none⟩)), (2, .int .i64 0), (41, .bool s_1)] (St w0 m m [[⟨b2, 25, [.int .i64 p0_0, .int .i64 p0_1, .int .i64 p0_2, .int .i64 p0_3, .int .i64 p0_4, .slice a_p0_5 p0_5.length c_p0_5]⟩]]) ?_ (fun hk4 => ?_)
  · refine WK_cond (b := s_1) rfl (fun hb5 => ?_) (fun hb5 => ?_)
    · have hm := ifT hb5 hm
      refine WK_seq ?_
      refine WK_region ?_
      refine WO_pure tbok 1 [(1, .pointer (some ⟨b2, 0, none⟩)), (2, .int .i64 2)] rfl ⟨rfl, rfl, trivial⟩ ?_
      refine WO_end ?_
      cases hm
      exact WK_ret (ret_out (L := []) (RLc_tmp rfl RLc_nil) (List.nil_sublist _) rfl)
    · have hm := ifF hb5 hm
      refine WK_skip ?_
      refine WK_seq ?_
      refine WK_seq ?_
      refine WK_region ?_
      refine WO_pure tbok 1 [(1, .pointer (some ⟨b2, 0, none⟩)), (2, .int .i64 0), (42, .pointer (some ⟨b2, 5, none⟩))] rfl ⟨rfl, rfl, rfl, trivial⟩ ?_
      refine WO_loadB tbok 0 rfl rfl rfl rfl (fun _ h => h) rfl rfl ?_
      refine WO_pure tbok 2 [(1, .pointer (some ⟨b2, 0, none⟩)), (2, .int .i64 0), (44, .int .i64 (p0_5.length : Int)), (45, .pointer (some ⟨b2, 3, none⟩))] rfl ⟨rfl, rfl, rfl, rfl, trivial⟩ ?_
      refine WO_loadB tbok 0 rfl rfl rfl rfl (fun _ h => h) rfl rfl ?_
      refine WO_pure tbok 1 [(1, .pointer (some ⟨b2, 0, none⟩)), (2, .int .i64 0), (44, .int .i64 (p0_5.length : Int)), (46, .int .i64 p0_3), (47, .pointer (some ⟨b2, 4, none⟩))] rfl ⟨rfl, rfl, rfl, rfl, rfl, trivial⟩ ?_
      refine WO_loadB tbok 0 rfl rfl rfl rfl (fun _ h => h) rfl rfl ?_
      refine WO_pure tbok 2 [(1, .pointer (some ⟨b2, 0, none⟩)), (2, .int .i64 0), (50, .bool ((p0_5.length : Int) != (w64 (p0_3 * p0_4))))] rfl ⟨rfl, rfl, rfl, trivial⟩ ?_
      refine WO_end ?_
      refine WK_cond (b := (p0_5.length : Int) != (w64 (p0_3 * p0_4))) rfl (fun hb6 => ?_) (fun hb6 => ?_)
      · have hm := ifT hb6 hm
        refine WK_seq ?_
        refine WK_region ?_
        refine WO_pure tbok 1 [(1, .pointer (some ⟨b2, 0, none⟩)), (2, .int .i64 4)] rfl ⟨rfl, rfl, trivial⟩ ?_
        refine WO_end ?_
        cases hm
        exact WK_ret (ret_out (L := []) (RLc_tmp rfl RLc_nil) (List.nil_sublist _) rfl)
      · have hm := ifF hb6 hm
        refine WK_skip ?_
        refine WK_seq ?_
        refine WK_seq ?_
        refine WK_region ?_
        refine WO_pure tbok 1 [(2, .int .i64 0), (51, .pointer (some ⟨b2, 5, none⟩))] rfl ⟨rfl, rfl, trivial⟩ ?_
        refine WO_loadB tbok 0 rfl rfl rfl rfl (fun _ h => h) rfl rfl ?_
        obtain ⟨y_3, hc7, hm⟩ := bind_some hm
        refine WO_call0 (.bool y_3) rfl rfl trivial rfl rfl rfl rfl St_closed ⟨48, #[], #[], rfl, callable_48, fun w hw => ⟨_, hw.sat, slices_ContainsFunc_sint_walk h_p0_5 (fun m1 hm1 z_2 _ h => specV_cap callable_49 (terrain_Check_c2_walk h)) hc7⟩⟩ ?_
        refine WO_end ?_
        refine WK_cond (b := y_3) rfl (fun hb8 => ?_) (fun hb8 => ?_)
        · have hm := ifT hb8 hm
          refine WK_seq ?_
          refine WK_region ?_
          refine WO_pure tbok 1 [(2, .int .i64 2)] rfl ⟨rfl, trivial⟩ ?_
          refine WO_end ?_
          cases hm
          exact WK_ret (ret_out (L := []) (RLc_tmp rfl RLc_nil) (List.nil_sublist _) rfl)
        · have hm := ifF hb8 hm
          refine WK_skip ?_
          refine WK_seq ?_
          refine WK_region ?_
          refine WO_pure tbok 1 [(2, .int .i64 0)] rfl ⟨rfl, trivial⟩ ?_
          refine WO_end ?_
          cases hm
          exact WK_ret (ret_out (L := []) (RLc_tmp rfl RLc_nil) (List.nil_sublist _) rfl)
  · refine WK_region ?_
    refine WO_pure tbok 2 [(1, .pointer (some ⟨b2, 0, none⟩)), (2, .int .i64 0), (3, .func (.func 47) #[] #[]), (4, .func (.func 47) #[] #[]), (5, .pointer (some ⟨b2, 3, none⟩))] rfl ⟨rfl, rfl, rfl, rfl, rfl, trivial⟩ ?_
    refine WO_loadB tbok 0 rfl rfl rfl rfl (fun _ h => h) rfl rfl ?_
    obtain ⟨y_4, hc9, hx3⟩ := bind_some hx3
    refine WO_call0 (.bool y_4) rfl rfl trivial rfl rfl rfl rfl St_closed ⟨47, #[], #[], rfl, callable_47, fun w hw => ⟨_, hw.sat, terrain_Check_c1_walk hc9⟩⟩ ?_
    refine WO_pure tbok 2 [(1, .pointer (some ⟨b2, 0, none⟩)), (2, .int .i64 0), (3, .func (.func 47) #[] #[]), (9, .bool (!y_4))] rfl ⟨rfl, rfl, rfl, rfl, trivial⟩ ?_
    refine WO_split (d := 9) (b := !y_4) rfl (fun hb10 => ?_) (fun hb10 => ?_)
    · have hx3 := ifT hb10 hx3
      refine WO_pure tbok 3 [(1, .pointer (some ⟨b2, 0, none⟩)), (2, .int .i64 0), (9, .bool true)] rfl ⟨rfl, rfl, rfl, trivial⟩ ?_
      refine WO_skip rfl rfl ?_
      refine WO_pure tbok 21 [(1, .pointer (some ⟨b2, 0, none⟩)), (2, .int .i64 0), (32, .bool true)] rfl ⟨rfl, rfl, rfl, trivial⟩ ?_
      refine WO_skip rfl rfl ?_
      refine WO_pure tbok 4 [(1, .pointer (some ⟨b2, 0, none⟩)), (2, .int .i64 0), (37, .bool true)] rfl ⟨rfl, rfl, rfl, trivial⟩ ?_
      refine WO_skip rfl rfl ?_
      refine WO_pure tbok 1 [(1, .pointer (some ⟨b2, 0, none⟩)), (2, .int .i64 0), (41, .bool true)] rfl ⟨rfl, rfl, rfl, trivial⟩ ?_
      refine WO_end ?_
      cases hx3
      refine WK.sub ?_ (WK.cls (fun _ h => h) hk4)
      exact ⟨rfl, rfl, rfl, trivial⟩
    · have hx3 := ifF hb10 hx3
      refine WO_pure tbok 2 [(1, .pointer (some ⟨b2, 0, none⟩)), (2, .int .i64 0), (9, .bool false), (10, .func (.func 47) #[] #[]), (11, .pointer (some ⟨b2, 4, none⟩))] rfl ⟨rfl, rfl, rfl, rfl, rfl, trivial⟩ ?_
      refine WO_loadB tbok 0 rfl rfl rfl rfl (fun _ h => h) rfl rfl ?_
      obtain ⟨y_5, hc11, hx3⟩ := bind_some hx3
      refine WO_call0 (.bool y_5) rfl rfl trivial rfl rfl rfl rfl St_closed ⟨47, #[], #[], rfl, callable_47, fun w hw => ⟨_, hw.sat, terrain_Check_c1_walk hc11⟩⟩ ?_
      refine WO_pure tbok 3 [(1, .pointer (some ⟨b2, 0, none⟩)), (2, .int .i64 0), (16, .bool (!y_5))] rfl ⟨rfl, rfl, rfl, trivial⟩ ?_
      refine WO_split (d := 16) (b := !y_5) rfl (fun hb12 => ?_) (fun hb12 => ?_)
      · have hx3 := ifT hb12 hx3
        refine WO_pure tbok 18 [(1, .pointer (some ⟨b2, 0, none⟩)), (2, .int .i64 0), (32, .bool true)] rfl ⟨rfl, rfl, rfl, trivial⟩ ?_
        refine WO_skip rfl rfl ?_
        refine WO_pure tbok 4 [(1, .pointer (some ⟨b2, 0, none⟩)), (2, .int .i64 0), (37, .bool true)] rfl ⟨rfl, rfl, rfl, trivial⟩ ?_
        refine WO_skip rfl rfl ?_
        refine WO_pure tbok 1 [(1, .pointer (some ⟨b2, 0, none⟩)), (2, .int .i64 0), (41, .bool true)] rfl ⟨rfl, rfl, rfl, trivial⟩ ?_
        refine WO_end ?_
        cases hx3
        refine WK.sub ?_ (WK.cls (fun _ h => h) hk4)
        exact ⟨rfl, rfl, rfl, trivial⟩
      · have hx3 := ifF hb12 hx3
        refine WO_pure tbok 1 [(1, .pointer (some ⟨b2, 0, none⟩)), (2, .int .i64 0), (16, .bool false), (17, .pointer (some ⟨b2, 2, none⟩))] rfl ⟨rfl, rfl, rfl, rfl, trivial⟩ ?_
        refine WO_loadB tbok 0 rfl rfl rfl rfl (fun _ h => h) rfl rfl ?_
        refine WO_pure tbok 3 [(1, .pointer (some ⟨b2, 0, none⟩)), (2, .int .i64 0), (21, .bool (decide (p0_2 < 2)))] rfl ⟨rfl, rfl, rfl, trivial⟩ ?_
        refine WO_split (d := 21) (b := decide (p0_2 < 2)) rfl (fun hb13 => ?_) (fun hb13 => ?_)
        · have hx3 := ifT hb13 hx3
          refine WO_pure tbok 13 [(1, .pointer (some ⟨b2, 0, none⟩)), (2, .int .i64 0), (32, .bool true)] rfl ⟨rfl, rfl, rfl, trivial⟩ ?_
          refine WO_skip rfl rfl ?_
          refine WO_pure tbok 4 [(1, .pointer (some ⟨b2, 0, none⟩)), (2, .int .i64 0), (37, .bool true)] rfl ⟨rfl, rfl, rfl, trivial⟩ ?_
          refine WO_skip rfl rfl ?_
          refine WO_pure tbok 1 [(1, .pointer (some ⟨b2, 0, none⟩)), (2, .int .i64 0), (41, .bool true)] rfl ⟨rfl, rfl, rfl, trivial⟩ ?_
          refine WO_end ?_
          cases hx3
          refine WK.sub ?_ (WK.cls (fun _ h => h) hk4)
          exact ⟨rfl, rfl, rfl, trivial⟩
        · have hx3 := ifF hb13 hx3
          refine WO_pure tbok 1 [(1, .pointer (some ⟨b2, 0, none⟩)), (2, .int .i64 0), (21, .bool false), (22, .pointer (some ⟨b2, 2, none⟩))] rfl ⟨rfl, rfl, rfl, rfl, trivial⟩ ?_
          refine WO_loadB tbok 0 rfl rfl rfl rfl (fun _ h => h) rfl rfl ?_
          refine WO_pure tbok 3 [(1, .pointer (some ⟨b2, 0, none⟩)), (2, .int .i64 0), (26, .bool (decide (65536 < p0_2)))] rfl ⟨rfl, rfl, rfl, trivial⟩ ?_
          refine WO_split (d := 26) (b := decide (65536 < p0_2)) rfl (fun hb14 => ?_) (fun hb14 => ?_)
          · have hx3 := ifT hb14 hx3
            refine WO_pure tbok 8 [(1, .pointer (some ⟨b2, 0, none⟩)), (2, .int .i64 0), (32, .bool true)] rfl ⟨rfl, rfl, rfl, trivial⟩ ?_
            refine WO_skip rfl rfl ?_
            refine WO_pure tbok 4 [(1, .pointer (some ⟨b2, 0, none⟩)), (2, .int .i64 0), (37, .bool true)] rfl ⟨rfl, rfl, rfl, trivial⟩ ?_
            refine WO_skip rfl rfl ?_
            refine WO_pure tbok 1 [(1, .pointer (some ⟨b2, 0, none⟩)), (2, .int .i64 0), (41, .bool true)] rfl ⟨rfl, rfl, rfl, trivial⟩ ?_
            refine WO_end ?_
            cases hx3
            refine WK.sub ?_ (WK.cls (fun _ h => h) hk4)
            exact ⟨rfl, rfl, rfl, trivial⟩
          · have hx3 := ifF hb14 hx3
            refine WO_pure tbok 1 [(1, .pointer (some ⟨b2, 0, none⟩)), (2, .int .i64 0), (26, .bool false), (27, .pointer (some ⟨b2, 2, none⟩))] rfl ⟨rfl, rfl, rfl, rfl, trivial⟩ ?_
            refine WO_loadB tbok 0 rfl rfl rfl rfl (fun _ h => h) rfl rfl ?_
            refine WO_pure tbok 4 [(1, .pointer (some ⟨b2, 0, none⟩)), (2, .int .i64 0), (32, .bool ((Int.tmod p0_2 2) != 0))] rfl ⟨rfl, rfl, rfl, trivial⟩ ?_
            refine WO_split (d := 32) (b := (Int.tmod p0_2 2) != 0) rfl (fun hb15 => ?_) (fun hb15 => ?_)
            · have hx3 := ifT hb15 hx3
              refine WO_pure tbok 2 [(1, .pointer (some ⟨b2, 0, none⟩)), (2, .int .i64 0), (32, .bool true)] rfl ⟨rfl, rfl, rfl, trivial⟩ ?_
              refine WO_skip rfl rfl ?_
              refine WO_pure tbok 4 [(1, .pointer (some ⟨b2, 0, none⟩)), (2, .int .i64 0), (37, .bool true)] rfl ⟨rfl, rfl, rfl, trivial⟩ ?_
              refine WO_skip rfl rfl ?_
              refine WO_pure tbok 1 [(1, .pointer (some ⟨b2, 0, none⟩)), (2, .int .i64 0), (41, .bool true)] rfl ⟨rfl, rfl, rfl, trivial⟩ ?_
              refine WO_end ?_
              cases hx3
              refine WK.sub ?_ (WK.cls (fun _ h => h) hk4)
              exact ⟨rfl, rfl, rfl, trivial⟩
            · have hx3 := ifF hb15 hx3
              refine WO_pure tbok 1 [(1, .pointer (some ⟨b2, 0, none⟩)), (2, .int .i64 0), (32, .bool false), (33, .pointer (some ⟨b2, 0, none⟩))] rfl ⟨rfl, rfl, rfl, rfl, trivial⟩ ?_
              refine WO_loadB tbok 0 rfl rfl rfl rfl (fun _ h => h) rfl rfl ?_
              obtain ⟨y_6, hc16, hx3⟩ := bind_some hx3
              refine WO_call0 (.bool y_6) rfl rfl trivial rfl rfl rfl rfl St_closed ⟨41, #[], #[], rfl, callable_41, fun w hw => ⟨_, hw.sat, terrain_far_walk hc16⟩⟩ ?_
              refine WO_pure tbok 2 [(1, .pointer (some ⟨b2, 0, none⟩)), (2, .int .i64 0), (37, .bool y_6)] rfl ⟨rfl, rfl, rfl, trivial⟩ ?_
              refine WO_split (d := 37) (b := y_6) rfl (fun hb17 => ?_) (fun hb17 => ?_)
              · have hx3 := ifT hb17 hx3
                refine WO_pure tbok 2 [(1, .pointer (some ⟨b2, 0, none⟩)), (2, .int .i64 0), (37, .bool true)] rfl ⟨rfl, rfl, rfl, trivial⟩ ?_
                refine WO_skip rfl rfl ?_
                refine WO_pure tbok 1 [(1, .pointer (some ⟨b2, 0, none⟩)), (2, .int .i64 0), (41, .bool true)] rfl ⟨rfl, rfl, rfl, trivial⟩ ?_
                refine WO_end ?_
                cases hx3
                refine WK.sub ?_ (WK.cls (fun _ h => h) hk4)
                exact ⟨rfl, rfl, rfl, trivial⟩
              · have hx3 := ifF hb17 hx3
                refine WO_pure tbok 1 [(1, .pointer (some ⟨b2, 0, none⟩)), (2, .int .i64 0), (37, .bool false), (38, .pointer (some ⟨b2, 1, none⟩))] rfl ⟨rfl, rfl, rfl, rfl, trivial⟩ ?_
                refine WO_loadB tbok 0 rfl rfl rfl rfl (fun _ h => h) rfl rfl ?_
                obtain ⟨y_7, hc18, hx3⟩ := bind_some hx3
                refine WO_call0 (.bool y_7) rfl rfl trivial rfl rfl rfl rfl St_closed ⟨41, #[], #[], rfl, callable_41, fun w hw => ⟨_, hw.sat, terrain_far_walk hc18⟩⟩ ?_
                refine WO_pure tbok 1 [(1, .pointer (some ⟨b2, 0, none⟩)), (2, .int .i64 0), (41, .bool y_7)] rfl ⟨rfl, rfl, rfl, trivial⟩ ?_
                refine WO_end ?_
                cases hx3
                refine WK.sub ?_ (WK.cls (fun _ h => h) hk4)
                exact ⟨rfl, rfl, rfl, trivial⟩
theorem terrain_checked_walk {m : Mu} {p0_0 : Int} {p0_1 : Int} {p0_2 : Int} {p0_3 : Int} {p0_4 : Int} {p0_5 : List Int} {p1 : Int} {a_p0_5 : Option Addr} {q_p0_5 c_p0_5 : Nat} (h_p0_5 : SlR (FE (I1 .i64)) 1 m (.slice a_p0_5 q_p0_5 c_p0_5) p0_5) {r : Int} (hm : terrain_checked p0_0 p0_1 p0_2 p0_3 p0_4 p0_5 p1 = some r) :
    Go.E.Spec Try.prog 51 [.agg #[.int .i64 p0_0, .int .i64 p0_1, .int .i64 p0_2, .int .i64 p0_3, .int .i64 p0_4, .slice a_p0_5 q_p0_5 c_p0_5], .int .i64 p1] m (fun v _ _ => v = .int .i64 r) := by
  refine Spec_enter Try.func51 rfl rfl rfl (fun w0 => ?_)
  refine WK.sub (e' := [(0, .agg #[.int .i64 p0_0, .int .i64 p0_1, .int .i64 p0_2, .int .i64 p0_3, .int .i64 p0_4, .slice a_p0_5 q_p0_5 c_p0_5]), (1, .int .i64 p1)]) ⟨rfl, rfl, trivial⟩ ?_
  obtain rfl := SlR.qlen h_p0_5
  refine WK.sub (e' := [(0, .agg #[.int .i64 p0_0, .int .i64 p0_1, .int .i64 p0_2, .int .i64 p0_3, .int .i64 p0_4, .slice a_p0_5 p0_5.length c_p0_5]), (1, .int .i64 p1)]) ⟨rfl, rfl, trivial⟩ ?_
  unfold terrain_checked at hm
  refine WK_seq ?_
  refine WK_region ?_
  refine WO_box [.int .i64 p0_0, .int .i64 p0_1, .int .i64 p0_2, .int .i64 p0_3, .int .i64 p0_4, .slice a_p0_5 p0_5.length c_p0_5] rfl rfl trivial rfl rfl rfl (fun b2 => ?_)
  refine WO.cls (C' := St w0 m m [[⟨b2, 25, [.int .i64 p0_0, .int .i64 p0_1, .int .i64 p0_2, .int .i64 p0_3, .int .i64 p0_4, .slice a_p0_5 p0_5.length c_p0_5]⟩]]) (fun _ h => h) ?_
  refine WO_pure tbok 1 [(1, .int .i64 p1), (2, .pointer (some ⟨b2, 0, none⟩)), (4, .int .i64 0)] rfl ⟨rfl, rfl, rfl, trivial⟩ ?_
  refine WO_end ?_
  refine WK_seq ?_
  refine WK_seq ?_
  refine WK_region ?_
  refine WO_loadB tbok 0 rfl rfl rfl rfl (fun _ h => h) rfl rfl ?_
  obtain ⟨y_1, hc3, hm⟩ := bind_some hm
  refine WO_call0 (.int .i64 y_1) rfl rfl trivial rfl rfl rfl rfl St_closed ⟨16, #[], #[], rfl, callable_16, fun w hw => ⟨_, hw.sat, terrain_Check_walk h_p0_5 hc3⟩⟩ ?_
  refine WO_pure tbok 1 [(1, .int .i64 p1), (4, .int .i64 0), (5, .int .i64 y_1)] rfl ⟨rfl, rfl, rfl, trivial⟩ ?_
  refine WO_end ?_
  refine WK_seq ?_
  refine WK_region ?_
  refine WO_pure tbok 2 [(1, .int .i64 p1), (4, .int .i64 0), (5, .int .i64 y_1), (9, .bool (y_1 != 0))] rfl ⟨rfl, rfl, rfl, rfl, trivial⟩ ?_
  refine WO_end ?_
  refine WK_cond (b := y_1 != 0) rfl (fun hb4 => ?_) (fun hb4 => ?_)
  · have hm := ifT hb4 hm
    refine WK_seq ?_
    refine WK_region ?_
    refine WO_pure tbok 2 [(1, .int .i64 p1), (4, .int .i64 y_1)] rfl ⟨rfl, rfl, trivial⟩ ?_
    refine WO_end ?_
    cases hm
    exact WK_ret (ret_out (L := []) (RLc_tmp rfl RLc_nil) (List.nil_sublist _) rfl)
  · have hm := ifF hb4 hm
    refine WK_skip ?_
    refine WK_seq ?_
    refine WK_seq ?_
    obtain ⟨s_2, hx5, hm⟩ := bind_some hm
    refine WK_meet [(4, .int .i64 0), (16, .bool s_2)] (St w0 m m [[⟨b2, 25, [.int .i64 p0_0, .int .i64 p0_1, .int .i64 p0_2, .int .i64 p0_3, .int .i64 p0_4, .slice a_p0_5 p0_5.length c_p0_5]⟩]]) ?_ (fun hk6 => ?_)
    · refine WK_cond (b := s_2) rfl (fun hb7 => ?_) (fun hb7 => ?_)
      · have hm := ifT hb7 hm
        refine WK_seq ?_
        refine WK_region ?_
        refine WO_pure tbok 1 [(4, .int .i64 2)] rfl ⟨rfl, trivial⟩ ?_
        refine WO_end ?_
        cases hm
        exact WK_ret (ret_out (L := []) (RLc_tmp rfl RLc_nil) (List.nil_sublist _) rfl)
      · have hm := ifF hb7 hm
        refine WK_skip ?_
        refine WK_seq ?_
        refine WK_region ?_
        refine WO_pure tbok 1 [(4, .int .i64 0)] rfl ⟨rfl, trivial⟩ ?_
        refine WO_end ?_
        cases hm
        exact WK_ret (ret_out (L := []) (RLc_tmp rfl RLc_nil) (List.nil_sublist _) rfl)
    · refine WK_region ?_
      refine WO_pure tbok 3 [(1, .int .i64 p1), (4, .int .i64 0), (13, .bool (decide (p1 < 0)))] rfl ⟨rfl, rfl, rfl, trivial⟩ ?_
      refine WO_split (d := 13) (b := decide (p1 < 0)) rfl (fun hb8 => ?_) (fun hb8 => ?_)
      · have hx5 := ifT hb8 hx5
        refine WO_pure tbok 3 [(4, .int .i64 0), (16, .bool true)] rfl ⟨rfl, rfl, trivial⟩ ?_
        refine WO_end ?_
        cases hx5
        refine WK.sub ?_ (WK.cls (fun _ h => h) hk6)
        exact ⟨rfl, rfl, trivial⟩
      · have hx5 := ifF hb8 hx5
        refine WO_pure tbok 3 [(4, .int .i64 0), (16, .bool (decide (8 < p1)))] rfl ⟨rfl, rfl, trivial⟩ ?_
        refine WO_end ?_
        cases hx5
        refine WK.sub ?_ (WK.cls (fun _ h => h) hk6)
        exact ⟨rfl, rfl, trivial⟩
theorem bits_Mul64_walk {m : Mu} {p0 : Int} {p1 : Int}   {r : Int × Int} (hm : bits_Mul64 p0 p1 = some r) :
    Go.E.Spec Try.prog 62 [.int .u64 p0, .int .u64 p1] m (fun v _ _ => v = .tuple #[.int .u64 r.1, .int .u64 r.2]) := by
  refine Spec_enter Try.func62 rfl rfl rfl (fun w0 => ?_)
  refine WK.sub (e' := [(0, .int .u64 p0), (1, .int .u64 p1)]) ⟨rfl, rfl, trivial⟩ ?_
  refine WK.sub (e' := [(0, .int .u64 p0), (1, .int .u64 p1)]) ⟨rfl, rfl, trivial⟩ ?_
  unfold bits_Mul64 at hm
  refine WK_seq ?_
  refine WK_region ?_
  refine WO_pure tbok 2 [(0, .int .u64 p0), (1, .int .u64 p1), (4, .int .u64 0), (5, .int .u64 0)] rfl ⟨rfl, rfl, rfl, rfl, trivial⟩ ?_
  refine WO_end ?_
  refine WK_seq ?_
  refine WK_region ?_
  refine WO_pure tbok 3 [(0, .int .u64 p0), (1, .int .u64 p1), (4, .int .u64 0), (5, .int .u64 0), (6, .int .u64 (wu64 (((BitVec.ofInt 64 p0 &&& BitVec.ofInt 64 4294967295).toNat : Int))))] rfl ⟨rfl, rfl, rfl, rfl, rfl, trivial⟩ ?_
  refine WO_end ?_
  refine WK_seq ?_
  refine WK_region ?_
  refine WO_pure tbok 1 [(0, .int .u64 p0), (1, .int .u64 p1), (4, .int .u64 0), (5, .int .u64 0), (6, .int .u64 (wu64 (((BitVec.ofInt 64 p0 &&& BitVec.ofInt 64 4294967295).toNat : Int)))), (16, .int .u64 p0)] rfl ⟨rfl, rfl, rfl, rfl, rfl, rfl, trivial⟩ ?_
  refine WO_shr rfl rfl rfl rfl rfl (by decide) ?_
  refine WO_pure tbok 1 [(0, .int .u64 p0), (1, .int .u64 p1), (4, .int .u64 0), (5, .int .u64 0), (6, .int .u64 (wu64 (((BitVec.ofInt 64 p0 &&& BitVec.ofInt 64 4294967295).toNat : Int)))), (7, .int .u64 (Int.fdiv p0 (2 ^ (min (32 : Int).toNat 64))))] rfl ⟨rfl, rfl, rfl, rfl, rfl, rfl, trivial⟩ ?_
  refine WO_end ?_
  refine WK_seq ?_
  refine WK_region ?_
  refine WO_pure tbok 3 [(0, .int .u64 p0), (1, .int .u64 p1), (4, .int .u64 0), (5, .int .u64 0), (6, .int .u64 (wu64 (((BitVec.ofInt 64 p0 &&& BitVec.ofInt 64 4294967295).toNat : Int)))), (7, .int .u64 (Int.fdiv p0 (2 ^ (min (32 : Int).toNat 64)))), (8, .int .u64 (wu64 (((BitVec.ofInt 64 p1 &&& BitVec.ofInt 64 4294967295).toNat : Int))))] rfl ⟨rfl, rfl, rfl, rfl, rfl, rfl, rfl, trivial⟩ ?_
  refine WO_end ?_
  refine WK_seq ?_
  refine WK_region ?_
  refine WO_pure tbok 1 [(0, .int .u64 p0), (1, .int .u64 p1), (4, .int .u64 0), (5, .int .u64 0), (6, .int .u64 (wu64 (((BitVec.ofInt 64 p0 &&& BitVec.ofInt 64 4294967295).toNat : Int)))), (7, .int .u64 (Int.fdiv p0 (2 ^ (min (32 : Int).toNat 64)))), (8, .int .u64 (wu64 (((BitVec.ofInt 64 p1 &&& BitVec.ofInt 64 4294967295).toNat : Int)))), (20, .int .u64 p1)] rfl ⟨rfl, rfl, rfl, rfl, rfl, rfl, rfl, rfl, trivial⟩ ?_
  refine WO_shr rfl rfl rfl rfl rfl (by decide) ?_
  refine WO_pure tbok 1 [(0, .int .u64 p0), (1, .int .u64 p1), (4, .int .u64 0), (5, .int .u64 0), (6, .int .u64 (wu64 (((BitVec.ofInt 64 p0 &&& BitVec.ofInt 64 4294967295).toNat : Int)))), (7, .int .u64 (Int.fdiv p0 (2 ^ (min (32 : Int).toNat 64)))), (8, .int .u64 (wu64 (((BitVec.ofInt 64 p1 &&& BitVec.ofInt 64 4294967295).toNat : Int)))), (9, .int .u64 (Int.fdiv p1 (2 ^ (min (32 : Int).toNat 64))))] rfl ⟨rfl, rfl, rfl, rfl, rfl, rfl, rfl, rfl, trivial⟩ ?_
  refine WO_end ?_
  refine WK_seq ?_
  refine WK_region ?_
  refine WO_pure tbok 4 [(0, .int .u64 p0), (1, .int .u64 p1), (4, .int .u64 0), (5, .int .u64 0), (6, .int .u64 (wu64 (((BitVec.ofInt 64 p0 &&& BitVec.ofInt 64 4294967295).toNat : Int)))), (7, .int .u64 (Int.fdiv p0 (2 ^ (min (32 : Int).toNat 64)))), (8, .int .u64 (wu64 (((BitVec.ofInt 64 p1 &&& BitVec.ofInt 64 4294967295).toNat : Int)))), (9, .int .u64 (Int.fdiv p1 (2 ^ (min (32 : Int).toNat 64)))), (10, .int .u64 (wu64 ((wu64 (((BitVec.ofInt 64 p0 &&& BitVec.ofInt 64 4294967295).toNat : Int))) * (wu64 (((BitVec.ofInt 64 p1 &&& BitVec.ofInt 64 4294967295).toNat : Int))))))] rfl ⟨rfl, rfl, rfl, rfl, rfl, rfl, rfl, rfl, rfl, trivial⟩ ?_
  refine WO_end ?_
  refine WK_seq ?_
  refine WK_region ?_
  refine WO_pure tbok 4 [(0, .int .u64 p0), (1, .int .u64 p1), (4, .int .u64 0), (5, .int .u64 0), (6, .int .u64 (wu64 (((BitVec.ofInt 64 p0 &&& BitVec.ofInt 64 4294967295).toNat : Int)))), (7, .int .u64 (Int.fdiv p0 (2 ^ (min (32 : Int).toNat 64)))), (9, .int .u64 (Int.fdiv p1 (2 ^ (min (32 : Int).toNat 64)))), (27, .int .u64 (wu64 ((Int.fdiv p0 (2 ^ (min (32 : Int).toNat 64))) * (wu64 (((BitVec.ofInt 64 p1 &&& BitVec.ofInt 64 4294967295).toNat : Int)))))), (28, .int .u64 (wu64 ((wu64 (((BitVec.ofInt 64 p0 &&& BitVec.ofInt 64 4294967295).toNat : Int))) * (wu64 (((BitVec.ofInt 64 p1 &&& BitVec.ofInt 64 4294967295).toNat : Int))))))] rfl ⟨rfl, rfl, rfl, rfl, rfl, rfl, rfl, rfl, rfl, trivial⟩ ?_
  refine WO_shr rfl rfl rfl rfl rfl (by decide) ?_
  refine WO_pure tbok 2 [(0, .int .u64 p0), (1, .int .u64 p1), (4, .int .u64 0), (5, .int .u64 0), (6, .int .u64 (wu64 (((BitVec.ofInt 64 p0 &&& BitVec.ofInt 64 4294967295).toNat : Int)))), (7, .int .u64 (Int.fdiv p0 (2 ^ (min (32 : Int).toNat 64)))), (9, .int .u64 (Int.fdiv p1 (2 ^ (min (32 : Int).toNat 64)))), (11, .int .u64 (wu64 ((wu64 ((Int.fdiv p0 (2 ^ (min (32 : Int).toNat 64))) * (wu64 (((BitVec.ofInt 64 p1 &&& BitVec.ofInt 64 4294967295).toNat : Int))))) + (Int.fdiv (wu64 ((wu64 (((BitVec.ofInt 64 p0 &&& BitVec.ofInt 64 4294967295).toNat : Int))) * (wu64 (((BitVec.ofInt 64 p1 &&& BitVec.ofInt 64 4294967295).toNat : Int))))) (2 ^ (min (32 : Int).toNat 64))))))] rfl ⟨rfl, rfl, rfl, rfl, rfl, rfl, rfl, rfl, trivial⟩ ?_
  refine WO_end ?_
  refine WK_seq ?_
  refine WK_region ?_
  refine WO_pure tbok 3 [(0, .int .u64 p0), (1, .int .u64 p1), (4, .int .u64 0), (5, .int .u64 0), (6, .int .u64 (wu64 (((BitVec.ofInt 64 p0 &&& BitVec.ofInt 64 4294967295).toNat : Int)))), (7, .int .u64 (Int.fdiv p0 (2 ^ (min (32 : Int).toNat 64)))), (9, .int .u64 (Int.fdiv p1 (2 ^ (min (32 : Int).toNat 64)))), (11, .int .u64 (wu64 ((wu64 ((Int.fdiv p0 (2 ^ (min (32 : Int).toNat 64))) * (wu64 (((BitVec.ofInt 64 p1 &&& BitVec.ofInt 64 4294967295).toNat : Int))))) + (Int.fdiv (wu64 ((wu64 (((BitVec.ofInt 64 p0 &&& BitVec.ofInt 64 4294967295).toNat : Int))) * (wu64 (((BitVec.ofInt 64 p1 &&& BitVec.ofInt 64 4294967295).toNat : Int))))) (2 ^ (min (32 : Int).toNat 64)))))), (12, .int .u64 (wu64 (((BitVec.ofInt 64 (wu64 ((wu64 ((Int.fdiv p0 (2 ^ (min (32 : Int).toNat 64))) * (wu64 (((BitVec.ofInt 64 p1 &&& BitVec.ofInt 64 4294967295).toNat : Int))))) + (Int.fdiv (wu64 ((wu64 (((BitVec.ofInt 64 p0 &&& BitVec.ofInt 64 4294967295).toNat : Int))) * (wu64 (((BitVec.ofInt 64 p1 &&& BitVec.ofInt 64 4294967295).toNat : Int))))) (2 ^ (min (32 : Int).toNat 64))))) &&& BitVec.ofInt 64 4294967295).toNat : Int))))] rfl ⟨rfl, rfl, rfl, rfl, rfl, rfl, rfl, rfl, rfl, trivial⟩ ?_
  refine WO_end ?_
  refine WK_seq ?_
  refine WK_region ?_
  refine WO_pure tbok 1 [(0, .int .u64 p0), (1, .int .u64 p1), (4, .int .u64 0), (5, .int .u64 0), (6, .int .u64 (wu64 (((BitVec.ofInt 64 p0 &&& BitVec.ofInt 64 4294967295).toNat : Int)))), (7, .int .u64 (Int.fdiv p0 (2 ^ (min (32 : Int).toNat 64)))), (9, .int .u64 (Int.fdiv p1 (2 ^ (min (32 : Int).toNat 64)))), (12, .int .u64 (wu64 (((BitVec.ofInt 64 (wu64 ((wu64 ((Int.fdiv p0 (2 ^ (min (32 : Int).toNat 64))) * (wu64 (((BitVec.ofInt 64 p1 &&& BitVec.ofInt 64 4294967295).toNat : Int))))) + (Int.fdiv (wu64 ((wu64 (((BitVec.ofInt 64 p0 &&& BitVec.ofInt 64 4294967295).toNat : Int))) * (wu64 (((BitVec.ofInt 64 p1 &&& BitVec.ofInt 64 4294967295).toNat : Int))))) (2 ^ (min (32 : Int).toNat 64))))) &&& BitVec.ofInt 64 4294967295).toNat : Int)))), (33, .int .u64 (wu64 ((wu64 ((Int.fdiv p0 (2 ^ (min (32 : Int).toNat 64))) * (wu64 (((BitVec.ofInt 64 p1 &&& BitVec.ofInt 64 4294967295).toNat : Int))))) + (Int.fdiv (wu64 ((wu64 (((BitVec.ofInt 64 p0 &&& BitVec.ofInt 64 4294967295).toNat : Int))) * (wu64 (((BitVec.ofInt 64 p1 &&& BitVec.ofInt 64 4294967295).toNat : Int))))) (2 ^ (min (32 : Int).toNat 64))))))] rfl ⟨rfl, rfl, rfl, rfl, rfl, rfl, rfl, rfl, rfl, trivial⟩ ?_
  refine WO_shr rfl rfl rfl rfl rfl (by decide) ?_
  refine WO_pure tbok 1 [(0, .int .u64 p0), (1, .int .u64 p1), (4, .int .u64 0), (5, .int .u64 0), (6, .int .u64 (wu64 (((BitVec.ofInt 64 p0 &&& BitVec.ofInt 64 4294967295).toNat : Int)))), (7, .int .u64 (Int.fdiv p0 (2 ^ (min (32 : Int).toNat 64)))), (9, .int .u64 (Int.fdiv p1 (2 ^ (min (32 : Int).toNat 64)))), (12, .int .u64 (wu64 (((BitVec.ofInt 64 (wu64 ((wu64 ((Int.fdiv p0 (2 ^ (min (32 : Int).toNat 64))) * (wu64 (((BitVec.ofInt 64 p1 &&& BitVec.ofInt 64 4294967295).toNat : Int))))) + (Int.fdiv (wu64 ((wu64 (((BitVec.ofInt 64 p0 &&& BitVec.ofInt 64 4294967295).toNat : Int))) * (wu64 (((BitVec.ofInt 64 p1 &&& BitVec.ofInt 64 4294967295).toNat : Int))))) (2 ^ (min (32 : Int).toNat 64))))) &&& BitVec.ofInt 64 4294967295).toNat : Int)))), (13, .int .u64 (Int.fdiv (wu64 ((wu64 ((Int.fdiv p0 (2 ^ (min (32 : Int).toNat 64))) * (wu64 (((BitVec.ofInt 64 p1 &&& BitVec.ofInt 64 4294967295).toNat : Int))))) + (Int.fdiv (wu64 ((wu64 (((BitVec.ofInt 64 p0 &&& BitVec.ofInt 64 4294967295).toNat : Int))) * (wu64 (((BitVec.ofInt 64 p1 &&& BitVec.ofInt 64 4294967295).toNat : Int))))) (2 ^ (min (32 : Int).toNat 64))))) (2 ^ (min (32 : Int).toNat 64))))] rfl ⟨rfl, rfl, rfl, rfl, rfl, rfl, rfl, rfl, rfl, trivial⟩ ?_
  refine WO_end ?_
  refine WK_seq ?_
  refine WK_region ?_
  refine WO_pure tbok 6 [(0, .int .u64 p0), (1, .int .u64 p1), (4, .int .u64 0), (5, .int .u64 0), (7, .int .u64 (Int.fdiv p0 (2 ^ (min (32 : Int).toNat 64)))), (9, .int .u64 (Int.fdiv p1 (2 ^ (min (32 : Int).toNat 64)))), (12, .int .u64 (wu64 ((wu64 (((BitVec.ofInt 64 (wu64 ((wu64 ((Int.fdiv p0 (2 ^ (min (32 : Int).toNat 64))) * (wu64 (((BitVec.ofInt 64 p1 &&& BitVec.ofInt 64 4294967295).toNat : Int))))) + (Int.fdiv (wu64 ((wu64 (((BitVec.ofInt 64 p0 &&& BitVec.ofInt 64 4294967295).toNat : Int))) * (wu64 (((BitVec.ofInt 64 p1 &&& BitVec.ofInt 64 4294967295).toNat : Int))))) (2 ^ (min (32 : Int).toNat 64))))) &&& BitVec.ofInt 64 4294967295).toNat : Int))) + (wu64 ((wu64 (((BitVec.ofInt 64 p0 &&& BitVec.ofInt 64 4294967295).toNat : Int))) * (Int.fdiv p1 (2 ^ (min (32 : Int).toNat 64)))))))), (13, .int .u64 (Int.fdiv (wu64 ((wu64 ((Int.fdiv p0 (2 ^ (min (32 : Int).toNat 64))) * (wu64 (((BitVec.ofInt 64 p1 &&& BitVec.ofInt 64 4294967295).toNat : Int))))) + (Int.fdiv (wu64 ((wu64 (((BitVec.ofInt 64 p0 &&& BitVec.ofInt 64 4294967295).toNat : Int))) * (wu64 (((BitVec.ofInt 64 p1 &&& BitVec.ofInt 64 4294967295).toNat : Int))))) (2 ^ (min (32 : Int).toNat 64))))) (2 ^ (min (32 : Int).toNat 64))))] rfl ⟨rfl, rfl, rfl, rfl, rfl, rfl, rfl, rfl, trivial⟩ ?_
  refine WO_end ?_
  refine WK_seq ?_
  refine WK_region ?_
  refine WO_pure tbok 6 [(0, .int .u64 p0), (1, .int .u64 p1), (4, .int .u64 0), (5, .int .u64 0), (44, .int .u64 (wu64 ((wu64 ((Int.fdiv p0 (2 ^ (min (32 : Int).toNat 64))) * (Int.fdiv p1 (2 ^ (min (32 : Int).toNat 64))))) + (Int.fdiv (wu64 ((wu64 ((Int.fdiv p0 (2 ^ (min (32 : Int).toNat 64))) * (wu64 (((BitVec.ofInt 64 p1 &&& BitVec.ofInt 64 4294967295).toNat : Int))))) + (Int.fdiv (wu64 ((wu64 (((BitVec.ofInt 64 p0 &&& BitVec.ofInt 64 4294967295).toNat : Int))) * (wu64 (((BitVec.ofInt 64 p1 &&& BitVec.ofInt 64 4294967295).toNat : Int))))) (2 ^ (min (32 : Int).toNat 64))))) (2 ^ (min (32 : Int).toNat 64)))))), (45, .int .u64 (wu64 ((wu64 (((BitVec.ofInt 64 (wu64 ((wu64 ((Int.fdiv p0 (2 ^ (min (32 : Int).toNat 64))) * (wu64 (((BitVec.ofInt 64 p1 &&& BitVec.ofInt 64 4294967295).toNat : Int))))) + (Int.fdiv (wu64 ((wu64 (((BitVec.ofInt 64 p0 &&& BitVec.ofInt 64 4294967295).toNat : Int))) * (wu64 (((BitVec.ofInt 64 p1 &&& BitVec.ofInt 64 4294967295).toNat : Int))))) (2 ^ (min (32 : Int).toNat 64))))) &&& BitVec.ofInt 64 4294967295).toNat : Int))) + (wu64 ((wu64 (((BitVec.ofInt 64 p0 &&& BitVec.ofInt 64 4294967295).toNat : Int))) * (Int.fdiv p1 (2 ^ (min (32 : Int).toNat 64))))))))] rfl ⟨rfl, rfl, rfl, rfl, rfl, rfl, trivial⟩ ?_
  refine WO_shr rfl rfl rfl rfl rfl (by decide) ?_
  refine WO_pure tbok 2 [(0, .int .u64 p0), (1, .int .u64 p1), (4, .int .u64 (wu64 ((wu64 ((wu64 ((Int.fdiv p0 (2 ^ (min (32 : Int).toNat 64))) * (Int.fdiv p1 (2 ^ (min (32 : Int).toNat 64))))) + (Int.fdiv (wu64 ((wu64 ((Int.fdiv p0 (2 ^ (min (32 : Int).toNat 64))) * (wu64 (((BitVec.ofInt 64 p1 &&& BitVec.ofInt 64 4294967295).toNat : Int))))) + (Int.fdiv (wu64 ((wu64 (((BitVec.ofInt 64 p0 &&& BitVec.ofInt 64 4294967295).toNat : Int))) * (wu64 (((BitVec.ofInt 64 p1 &&& BitVec.ofInt 64 4294967295).toNat : Int))))) (2 ^ (min (32 : Int).toNat 64))))) (2 ^ (min (32 : Int).toNat 64))))) + (Int.fdiv (wu64 ((wu64 (((BitVec.ofInt 64 (wu64 ((wu64 ((Int.fdiv p0 (2 ^ (min (32 : Int).toNat 64))) * (wu64 (((BitVec.ofInt 64 p1 &&& BitVec.ofInt 64 4294967295).toNat : Int))))) + (Int.fdiv (wu64 ((wu64 (((BitVec.ofInt 64 p0 &&& BitVec.ofInt 64 4294967295).toNat : Int))) * (wu64 (((BitVec.ofInt 64 p1 &&& BitVec.ofInt 64 4294967295).toNat : Int))))) (2 ^ (min (32 : Int).toNat 64))))) &&& BitVec.ofInt 64 4294967295).toNat : Int))) + (wu64 ((wu64 (((BitVec.ofInt 64 p0 &&& BitVec.ofInt 64 4294967295).toNat : Int))) * (Int.fdiv p1 (2 ^ (min (32 : Int).toNat 64))))))) (2 ^ (min (32 : Int).toNat 64)))))), (5, .int .u64 0)] rfl ⟨rfl, rfl, rfl, rfl, trivial⟩ ?_
  refine WO_end ?_
  refine WK_seq ?_
  refine WK_region ?_
  refine WO_pure tbok 4 [(4, .int .u64 (wu64 ((wu64 ((wu64 ((Int.fdiv p0 (2 ^ (min (32 : Int).toNat 64))) * (Int.fdiv p1 (2 ^ (min (32 : Int).toNat 64))))) + (Int.fdiv (wu64 ((wu64 ((Int.fdiv p0 (2 ^ (min (32 : Int).toNat 64))) * (wu64 (((BitVec.ofInt 64 p1 &&& BitVec.ofInt 64 4294967295).toNat : Int))))) + (Int.fdiv (wu64 ((wu64 (((BitVec.ofInt 64 p0 &&& BitVec.ofInt 64 4294967295).toNat : Int))) * (wu64 (((BitVec.ofInt 64 p1 &&& BitVec.ofInt 64 4294967295).toNat : Int))))) (2 ^ (min (32 : Int).toNat 64))))) (2 ^ (min (32 : Int).toNat 64))))) + (Int.fdiv (wu64 ((wu64 (((BitVec.ofInt 64 (wu64 ((wu64 ((Int.fdiv p0 (2 ^ (min (32 : Int).toNat 64))) * (wu64 (((BitVec.ofInt 64 p1 &&& BitVec.ofInt 64 4294967295).toNat : Int))))) + (Int.fdiv (wu64 ((wu64 (((BitVec.ofInt 64 p0 &&& BitVec.ofInt 64 4294967295).toNat : Int))) * (wu64 (((BitVec.ofInt 64 p1 &&& BitVec.ofInt 64 4294967295).toNat : Int))))) (2 ^ (min (32 : Int).toNat 64))))) &&& BitVec.ofInt 64 4294967295).toNat : Int))) + (wu64 ((wu64 (((BitVec.ofInt 64 p0 &&& BitVec.ofInt 64 4294967295).toNat : Int))) * (Int.fdiv p1 (2 ^ (min (32 : Int).toNat 64))))))) (2 ^ (min (32 : Int).toNat 64)))))), (5, .int .u64 (wu64 (p0 * p1)))] rfl ⟨rfl, rfl, trivial⟩ ?_
  refine WO_end ?_
  cases hm
  exact WK_ret (ret_out (L := []) (RLc_tmp rfl (RLc_tmp rfl RLc_nil)) (List.nil_sublist _) rfl)
theorem bits_Mul_walk {m : Mu} {p0 : Int} {p1 : Int}   {r : Int × Int} (hm : bits_Mul p0 p1 = some r) :
    Go.E.Spec Try.prog 60 [.int .u64 p0, .int .u64 p1] m (fun v _ _ => v = .tuple #[.int .u64 r.1, .int .u64 r.2]) := by
  refine Spec_enter Try.func60 rfl rfl rfl (fun w0 => ?_)
  refine WK.sub (e' := [(0, .int .u64 p0), (1, .int .u64 p1)]) ⟨rfl, rfl, trivial⟩ ?_
  refine WK.sub (e' := [(0, .int .u64 p0), (1, .int .u64 p1)]) ⟨rfl, rfl, trivial⟩ ?_
  unfold bits_Mul at hm
  refine WK_seq ?_
  refine WK_region ?_
  refine WO_pure tbok 2 [(0, .int .u64 p0), (1, .int .u64 p1), (4, .int .u64 0), (5, .int .u64 0)] rfl ⟨rfl, rfl, rfl, rfl, trivial⟩ ?_
  refine WO_end ?_
  refine WK_seq ?_
  refine WK_condF rfl ?_
  refine WK_skip ?_
  refine WK_seq ?_
  refine WK_region ?_
  refine WO_pure tbok 2 [(4, .int .u64 0), (5, .int .u64 0), (23, .int .u64 p0), (24, .int .u64 p1)] rfl ⟨rfl, rfl, rfl, rfl, trivial⟩ ?_
  obtain ⟨⟨y_1, y_2⟩, hc1, hm⟩ := bind_some hm
  refine WO_call0 (.tuple #[.int .u64 y_1, .int .u64 y_2]) rfl rfl trivial rfl rfl rfl rfl St_closed ⟨62, #[], #[], rfl, callable_62, fun w hw => ⟨_, hw.sat, bits_Mul64_walk hc1⟩⟩ ?_
  refine WO_pure tbok 5 [(4, .int .u64 0), (5, .int .u64 0), (8, .int .u64 y_1), (9, .int .u64 y_2)] rfl ⟨rfl, rfl, rfl, rfl, trivial⟩ ?_
  refine WO_end ?_
  refine WK_seq ?_
  refine WK_region ?_
  refine WO_pure tbok 4 [(4, .int .u64 y_1), (5, .int .u64 y_2)] rfl ⟨rfl, rfl, trivial⟩ ?_
  refine WO_end ?_
  cases hm
  exact WK_ret (ret_out (L := []) (RLc_tmp rfl (RLc_tmp rfl RLc_nil)) (List.nil_sublist _) rfl)
def slices_Repeat_sint_Q (r : List Int) : Value → List Ent → Prop := fun v L => ∃ (a0 : Option Addr) (q0 c0 : Nat), v = .slice a0 q0 c0 ∧ OwnE 3 1 (I1 .i64) (.slice a0 q0 c0) r L
theorem slices_Repeat_sint_walk {m : Mu} {p0 : List Int} {p1 : Int} {a_p0 : Option Addr} {q_p0 c_p0 : Nat} (h_p0 : SlR (FE (I1 .i64)) 1 m (.slice a_p0 q_p0 c_p0) p0) {r : List Int} (hm : slices_Repeat_sint p0 p1 = some r) :
    Go.E.Spec Try.prog 58 [.slice a_p0 q_p0 c_p0, .int .i64 p1] m (fun v _ L => slices_Repeat_sint_Q r v L) := by
  refine Spec_enter Try.func58 rfl rfl rfl (fun w0 => ?_)
  refine WK.sub (e' := [(0, .slice a_p0 q_p0 c_p0), (1, .int .i64 p1)]) ⟨rfl, rfl, trivial⟩ ?_
  obtain rfl := SlR.qlen h_p0
  refine WK.sub (e' := [(0, .slice a_p0 p0.length c_p0), (1, .int .i64 p1)]) ⟨rfl, rfl, trivial⟩ ?_
  unfold slices_Repeat_sint at hm
  refine WK_seq ?_
  refine WK_region ?_
  refine WO_pure tbok 1 [(0, .slice a_p0 p0.length c_p0), (1, .int .i64 p1), (4, .slice none 0 0)] rfl ⟨rfl, rfl, rfl, trivial⟩ ?_
  refine WO_end ?_
  refine WK_seq ?_
  refine WK_seq ?_
  refine WK_region ?_
  refine WO_pure tbok 2 [(0, .slice a_p0 p0.length c_p0), (1, .int .i64 p1), (4, .slice none 0 0), (10, .bool (decide (p1 < 0)))] rfl ⟨rfl, rfl, rfl, rfl, trivial⟩ ?_
  refine WO_end ?_
  refine WK_cond (b := decide (p1 < 0)) rfl (fun hb2 => ?_) (fun hb2 => ?_)
  · have hm := ifT hb2 hm
    refine WK_region ?_
    cases hm
  · have hm := ifF hb2 hm
    refine WK_skip ?_
    refine WK_seq ?_
    refine WK_region ?_
    refine WO_pure tbok 5 [(0, .slice a_p0 p0.length c_p0), (4, .slice none 0 0), (15, .int .u64 (wu64 ((p0.length : Int)))), (17, .int .u64 (wu64 (p1)))] rfl ⟨rfl, rfl, rfl, rfl, trivial⟩ ?_
    obtain ⟨⟨y_1, y_2⟩, hc3, hm⟩ := bind_some hm
    refine WO_call0 (.tuple #[.int .u64 y_1, .int .u64 y_2]) rfl rfl trivial rfl rfl rfl rfl St_closed ⟨60, #[], #[], rfl, callable_60, fun w hw => ⟨_, hw.sat, bits_Mul_walk hc3⟩⟩ ?_
    refine WO_pure tbok 5 [(0, .slice a_p0 p0.length c_p0), (4, .slice none 0 0), (5, .int .u64 y_1), (6, .int .u64 y_2)] rfl ⟨rfl, rfl, rfl, rfl, trivial⟩ ?_
    refine WO_end ?_
    refine WK_seq ?_
    refine WK_seq ?_
    obtain ⟨s_3, hx4, hm⟩ := bind_some hm
    refine WK_meet [(0, .slice a_p0 p0.length c_p0), (4, .slice none 0 0), (6, .int .u64 y_2), (26, .bool s_3)] (St w0 m m []) ?_ (fun hk5 => ?_)
    · refine WK_cond (b := s_3) rfl (fun hb6 => ?_) (fun hb6 => ?_)
      · have hm := ifT hb6 hm
        refine WK_region ?_
        cases hm
      · have hm := ifF hb6 hm
        refine WK_skip ?_
        refine WK_seq ?_
        refine WK_region ?_
        refine WO_pure tbok 2 [(0, .slice a_p0 p0.length c_p0), (4, .slice none 0 0), (29, .int .i64 (w64 (y_2)))] rfl ⟨rfl, rfl, rfl, trivial⟩ ?_
        obtain ⟨hc7, hm⟩ := chk_some hm
        refine WO_make (E := (I1 .i64)) tbok (fun _ => rfl) (by decide) (0 : Int) rfl rfl trivial rfl rfl rfl rfl rfl rfl rfl rfl rfl (mk_ok (by decide) hc7) (fun b8 c9 L10 hL10 => ?_)
        refine WO.cls (C' := St w0 m m [L10]) (fun _ h => h) ?_
        refine WO_pure tbok 1 [(0, .slice a_p0 p0.length c_p0), (4, .slice none 0 0), (7, .slice (some ⟨b8, 0, none⟩) ((List.replicate (w64 (y_2)).toNat (0 : Int)).length) c9)] rfl ⟨rfl, rfl, rfl, trivial⟩ ?_
        refine WO_end ?_
        refine WK_seq ?_
        refine WK_region ?_
        refine WO_pure tbok 2 [(4, .slice none 0 0), (7, .slice (some ⟨b8, 0, none⟩) ((List.replicate (w64 (y_2)).toNat (0 : Int)).length) c9), (31, .slice (some ⟨b8, 0, none⟩) ((List.replicate (w64 (y_2)).toNat (0 : Int)).length) c9), (32, .slice a_p0 p0.length c_p0)] rfl ⟨rfl, rfl, rfl, rfl, trivial⟩ ?_
        have hz13 : OwnE 3 1 (I1 .i64) (.slice (some ⟨b8, 0, none⟩) ((List.replicate (w64 (y_2)).toNat (0 : Int)).length) c9) (List.replicate (w64 (y_2)).toNat (0 : Int)) L10 := hL10
        refine WO_copy (E := (I1 .i64)) tbok (fun _ => rfl) (fun _ => rfl) 0 (0) p0 ((List.replicate (w64 (y_2)).toNat (0 : Int)).length) rfl rfl rfl rfl rfl rfl rfl rfl rfl rfl hz13 rfl (OwnE.qlen hz13) (by rw [Nat.zero_add]; exact Nat.le_refl _) DstAt.whole (fun w hw => ⟨_, hw.sat, h_p0⟩) (fun L12 hL12 => ?_)
        refine WO.cls (C' := St w0 m m [L12]) (fun _ h => h) ?_
        refine WO_pure tbok 1 [(4, .slice none 0 0), (7, .slice (some ⟨b8, 0, none⟩) ((List.replicate (w64 (y_2)).toNat (0 : Int)).length) c9), (8, .int .i64 (cpn ((List.replicate (w64 (y_2)).toNat (0 : Int)).length) p0))] rfl ⟨rfl, rfl, rfl, trivial⟩ ?_
        refine WO_end ?_
        refine WK_seq ?_
        obtain ⟨x19, hx20, hm⟩ := bind_some hm
        refine WK_join (β := (List Int) × (List Ent)) (fun p => p.1 = x19 ∧ OwnE 3 1 (I1 .i64) (.slice (some ⟨b8, 0, none⟩) ((List.replicate (w64 (y_2)).toNat (0 : Int)).length) c9) p.1 p.2) (fun p => [(4, .slice none 0 0), (7, .slice (some ⟨b8, 0, none⟩) ((List.replicate (w64 (y_2)).toNat (0 : Int)).length) c9)]) (fun p => St w0 m m [p.2]) ?_ (fun hk21 => ?_)
        · rintro ⟨l_6, L18⟩ ⟨hq27, hL18⟩
          subst hq27
          refine WK.sub (e' := [(4, .slice none 0 0), (7, .slice (some ⟨b8, 0, none⟩) ((List.replicate (w64 (y_2)).toNat (0 : Int)).length) c9)]) ⟨rfl, rfl, trivial⟩ (WK.cls (C' := St w0 m m [L18]) (fun _ h => h) ?_)
          refine WK_seq ?_
          refine WK_region ?_
          refine WO_pure tbok 2 [(4, .slice (some ⟨b8, 0, none⟩) ((List.replicate (w64 (y_2)).toNat (0 : Int)).length) c9)] rfl ⟨rfl, trivial⟩ ?_
          refine WO_end ?_
          cases hm
          exact WK_ret (ret_out (L := L18) (RLc_tmp rfl RLc_nil) (seg_sub 0 rfl) ⟨(some ⟨b8, 0, none⟩), ((List.replicate (w64 (y_2)).toNat (0 : Int)).length), c9, rfl, hL18⟩)
        · refine WK_block ?_
          refine WK_loop (S := List Int × Int) (G := List Ent) (fun s => slices_Repeat_sint_s1 y_2 s.1 s.2) (fun s g => [(4, .slice none 0 0), (7, .slice (some ⟨b8, 0, none⟩) ((List.replicate (w64 (y_2)).toNat (0 : Int)).length) c9), (8, .int .i64 s.2)]) (fun s g => St w0 m m [g]) (fun s g => OwnE 3 1 (I1 .i64) (.slice (some ⟨b8, 0, none⟩) ((List.replicate (w64 (y_2)).toNat (0 : Int)).length) c9) s.1 g) FUEL ((cpy (List.replicate (w64 (y_2)).toNat (0 : Int)) 0 ((List.replicate (w64 (y_2)).toNat (0 : Int)).length) p0), (cpn ((List.replicate (w64 (y_2)).toNat (0 : Int)).length) p0)) L12 x19 hx20 hL12 ⟨rfl, rfl, rfl, trivial⟩ (fun _ h => h) ?_
          rintro ⟨l_4, s_5⟩ L16 o23 fl24 hm22 hL16 hn25 hd26
          have hm22 : slices_Repeat_sint_s1 y_2 l_4 s_5 = some o23 := hm22
          unfold slices_Repeat_sint_s1 at hm22
          refine WK.sub (e' := [(4, .slice none 0 0), (7, .slice (some ⟨b8, 0, none⟩) ((List.replicate (w64 (y_2)).toNat (0 : Int)).length) c9), (8, .int .i64 s_5)]) ⟨rfl, rfl, rfl, trivial⟩ (WK.cls (C' := St w0 m m [L16]) (fun _ h => h) ?_)
          refine WK_seq ?_
          refine WK_seq ?_
          refine WK_region ?_
          refine WO_pure tbok 4 [(4, .slice none 0 0), (7, .slice (some ⟨b8, 0, none⟩) ((List.replicate (w64 (y_2)).toNat (0 : Int)).length) c9), (8, .int .i64 s_5), (37, .bool (decide (s_5 < ((List.replicate (w64 (y_2)).toNat (0 : Int)).length : Int))))] rfl ⟨rfl, rfl, rfl, rfl, trivial⟩ ?_
          refine WO_end ?_
          refine WK_cond (b := decide (s_5 < ((List.replicate (w64 (y_2)).toNat (0 : Int)).length : Int))) rfl (fun hb28 => ?_) (fun hb28 => ?_)
          · have hm22 := ifT hb28 hm22
            refine WK_skip ?_
            refine WK_block ?_
            refine WK_plan 7 [0, 1, 2, 4, 5] (.run [3, 6] .fin) follows_ok (by kernel_rfl) St_closed ?_
            refine WO_pure tbok 5 [(4, .slice none 0 0), (7, .slice (some ⟨b8, 0, none⟩) ((List.replicate (w64 (y_2)).toNat (0 : Int)).length) c9), (8, .int .i64 s_5), (38, .int .i64 s_5), (39, .slice (some ⟨b8, 0, none⟩) ((List.replicate (w64 (y_2)).toNat (0 : Int)).length) c9), (40, .int .i64 s_5), (42, .slice (some ⟨b8, 0, none⟩) ((List.replicate (w64 (y_2)).toNat (0 : Int)).length) c9), (43, .int .i64 s_5)] rfl ⟨rfl, rfl, rfl, rfl, rfl, rfl, rfl, rfl, trivial⟩ ?_
            refine WO_plan ?_
            refine WT_run ?_
            obtain ⟨hc29, hm22⟩ := chk_some hm22
            have hc29 : 0 ≤ (s_5 : Int) ∧ (s_5 : Int) ≤ (l_4.length : Int) ∧ (l_4.length : Int) ≤ (l_4.length : Int) := hc29
            have hz33 : OwnE 3 1 (I1 .i64) (.slice (some ⟨b8, 0, none⟩) ((List.replicate (w64 (y_2)).toNat (0 : Int)).length) c9) l_4 L16 := hL16
            refine WO_sliceV (E := (I1 .i64)) tbok (fun _ => rfl) (some (s_5 : Int)) none (s_5 : Int).toNat l_4.length rfl rfl rfl rfl rfl rfl rfl rfl rfl rfl hz33 (by simp only [Option.getD_some] <;> omega) (by have := OwnE.qlen hz33; simp only [Option.getD_none] <;> omega) (by omega) (by omega) (fun a30 c31 h32 h32d => ?_)
            obtain ⟨hc35, hm22⟩ := chk_some hm22
            have hc35 : 0 ≤ (0 : Int) ∧ (0 : Int) ≤ (s_5 : Int) ∧ (s_5 : Int) ≤ (l_4.length : Int) := hc35
            have hz39 : OwnE 3 1 (I1 .i64) (.slice (some ⟨b8, 0, none⟩) ((List.replicate (w64 (y_2)).toNat (0 : Int)).length) c9) l_4 L16 := hL16
            refine WO_sliceV (E := (I1 .i64)) tbok (fun _ => rfl) none (some (s_5 : Int)) (0 : Int).toNat (s_5 : Int).toNat rfl rfl rfl rfl rfl rfl rfl rfl rfl rfl hz39 rfl (by simp only [Option.getD_some] <;> omega) (by omega) (by omega) (fun a36 c37 h38 h38d => ?_)
            refine WO_tree rfl ?_
            refine WT_fin ?_
            have hz42 : OwnE 3 1 (I1 .i64) (.slice (some ⟨b8, 0, none⟩) ((List.replicate (w64 (y_2)).toNat (0 : Int)).length) c9) l_4 L16 := hL16
            refine WO_copy (E := (I1 .i64)) tbok (fun _ => rfl) (fun _ => rfl) 0 ((s_5 : Int).toNat) ((l_4.take (s_5 : Int).toNat).drop (0 : Int).toNat) (((l_4.take l_4.length).drop (s_5 : Int).toNat).length) rfl rfl rfl rfl rfl rfl rfl rfl rfl rfl hz42 rfl rfl (by rw [List.length_drop, List.length_take]; omega) h32d (fun w hw => ⟨_, hw.satV, (h38 _ (fun _ hx => hw.memV (i := 0) rfl hx))⟩) (fun L41 hL41 => ?_)
            refine WO.cls (C' := St w0 m m [L41]) (fun _ h => h) ?_
            refine WO_pure tbok 2 [(4, .slice none 0 0), (7, .slice (some ⟨b8, 0, none⟩) ((List.replicate (w64 (y_2)).toNat (0 : Int)).length) c9), (8, .int .i64 (w64 (s_5 + (cpn (((l_4.take l_4.length).drop (s_5 : Int).toNat).length) ((l_4.take (s_5 : Int).toNat).drop (0 : Int).toNat)))))] rfl ⟨rfl, rfl, rfl, trivial⟩ ?_
            refine WO_end ?_
            refine WK_blk ?_
            cases hm22
            refine WK.sub ?_ (WK.cls (fun _ h => h) (hn25 _ L41 rfl hL41))
            exact ⟨rfl, rfl, rfl, trivial⟩
          · have hm22 := ifF hb28 hm22
            refine WK_exit rfl ?_
            cases hm22
            refine WK.sub ?_ (WK.cls (fun _ h => h) (hk21 (l_4, L16) ⟨(hd26 _ rfl), hL16⟩))
            exact ⟨rfl, rfl, trivial⟩
    · refine WK_region ?_
      refine WO_pure tbok 3 [(0, .slice a_p0 p0.length c_p0), (4, .slice none 0 0), (6, .int .u64 y_2), (23, .bool (decide (0 < y_1)))] rfl ⟨rfl, rfl, rfl, rfl, trivial⟩ ?_
      refine WO_split (d := 23) (b := decide (0 < y_1)) rfl (fun hb44 => ?_) (fun hb44 => ?_)
      · have hx4 := ifT hb44 hx4
        refine WO_pure tbok 3 [(0, .slice a_p0 p0.length c_p0), (4, .slice none 0 0), (6, .int .u64 y_2), (26, .bool true)] rfl ⟨rfl, rfl, rfl, rfl, trivial⟩ ?_
        refine WO_end ?_
        cases hx4
        refine WK.sub ?_ (WK.cls (fun _ h => h) hk5)
        exact ⟨rfl, rfl, rfl, rfl, trivial⟩
      · have hx4 := ifF hb44 hx4
        refine WO_pure tbok 3 [(0, .slice a_p0 p0.length c_p0), (4, .slice none 0 0), (6, .int .u64 y_2), (26, .bool (decide (9223372036854775807 < y_2)))] rfl ⟨rfl, rfl, rfl, rfl, trivial⟩ ?_
        refine WO_end ?_
        cases hx4
        refine WK.sub ?_ (WK.cls (fun _ h => h) hk5)
        exact ⟨rfl, rfl, rfl, rfl, trivial⟩
def terrain_blank_Q (r : List Int) : Value → List Ent → Prop := fun v L => ∃ (a0 : Option Addr) (q0 c0 : Nat), v = .slice a0 q0 c0 ∧ OwnE 3 1 (I1 .i64) (.slice a0 q0 c0) r L
theorem terrain_blank_walk {m : Mu} {p0 : Int}   {r : List Int} (hm : terrain_blank p0 = some r) :
    Go.E.Spec Try.prog 42 [.int .i64 p0] m (fun v _ L => terrain_blank_Q r v L) := by
  refine Spec_enter Try.func42 rfl rfl rfl (fun w0 => ?_)
  refine WK.sub (e' := [(0, .int .i64 p0)]) ⟨rfl, trivial⟩ ?_
  refine WK.sub (e' := [(0, .int .i64 p0)]) ⟨rfl, trivial⟩ ?_
  unfold terrain_blank at hm
  refine WK_seq ?_
  refine WK_region ?_
  refine WO_pure tbok 1 [(0, .int .i64 p0), (2, .slice none 0 0)] rfl ⟨rfl, rfl, trivial⟩ ?_
  refine WO_end ?_
  refine WK_seq ?_
  refine WK_region ?_
  refine WO_bslice (E := (I1 .i64)) tbok (fun _ => rfl) (by decide) [.int .i64 (-2147483648)] ([(-2147483648)] : List Int) rfl rfl trivial rfl rfl rfl rfl rfl rfl rfl rfl rfl rfl rfl rfl (fun b1 hb1 => ?_)
  refine WO.cls (C' := St w0 m m [[⟨b1, 3, ([(-2147483648)] : List Int).flatMap (I1 .i64)⟩]]) (fun _ h => h) ?_
  refine WO_pure tbok 1 [(2, .slice none 0 0), (3, .slice (some ⟨b1, 0, none⟩) 1 1), (4, .int .i64 p0)] rfl ⟨rfl, rfl, rfl, trivial⟩ ?_
  obtain ⟨y_1, hc3, hm⟩ := bind_some hm
  refine WO_call1 (slices_Repeat_sint_Q y_1) rfl rfl trivial rfl rfl rfl rfl ⟨58, #[], #[], rfl, callable_58, fun w hw => ⟨_, hw.satV, slices_Repeat_sint_walk (OwnE.rd (E := (I1 .i64)) (k := 1) (fun _ => rfl) hb1 (fun _ hx => hw.memV (i := 0) rfl hx)) hc3⟩⟩ (fun v8 L7 hq => ?_)
  obtain ⟨a4, qa4, c5, rfl, hL7⟩ := hq
  obtain rfl := OwnE.qlen hL7
  refine WO.cls (C' := St w0 m m [[⟨b1, 3, ([(-2147483648)] : List Int).flatMap (I1 .i64)⟩], L7]) (fun _ h => h) ?_
  refine WO_pure tbok 1 [(2, .slice a4 ((y_1).length) c5)] rfl ⟨rfl, trivial⟩ ?_
  refine WO_end ?_
  cases hm
  exact WK_ret (ret_out (L := L7) (RLc_tmp rfl RLc_nil) (seg_sub 1 rfl) ⟨a4, _, c5, rfl, hL7⟩)
def terrain_with_Q (r : Int × Int × Int × Int × Int × List Int) : Value → Mu → List Ent → Prop := fun v m L => ∃ (a0 : Option Addr) (q0 c0 : Nat), v = .agg #[.int .i64 r.1, .int .i64 r.2.1, .int .i64 r.2.2.1, .int .i64 r.2.2.2.1, .int .i64 r.2.2.2.2.1, .slice a0 q0 c0] ∧ SlR (FE (I1 .i64)) 1 m (.slice a0 q0 c0) r.2.2.2.2.2
theorem terrain_with_walk {m : Mu} {p0_0 : Int} {p0_1 : Int} {p0_2 : Int} {p0_3 : Int} {p0_4 : Int} {p0_5 : List Int} {p1 : List Int} {a_p0_5 : Option Addr} {q_p0_5 c_p0_5 : Nat} {a_p1 : Option Addr} {q_p1 c_p1 : Nat} (h_p0_5 : SlR (FE (I1 .i64)) 1 m (.slice a_p0_5 q_p0_5 c_p0_5) p0_5) (h_p1 : SlR (FE (I1 .i64)) 1 m (.slice a_p1 q_p1 c_p1) p1) {r : Int × Int × Int × Int × Int × List Int} (hm : terrain_with p0_0 p0_1 p0_2 p0_3 p0_4 p0_5 p1 = some r) :
    Go.E.Spec Try.prog 44 [.agg #[.int .i64 p0_0, .int .i64 p0_1, .int .i64 p0_2, .int .i64 p0_3, .int .i64 p0_4, .slice a_p0_5 q_p0_5 c_p0_5], .slice a_p1 q_p1 c_p1] m (terrain_with_Q r) := by
  refine Spec_enter Try.func44 rfl rfl rfl (fun w0 => ?_)
  refine WK.sub (e' := [(0, .agg #[.int .i64 p0_0, .int .i64 p0_1, .int .i64 p0_2, .int .i64 p0_3, .int .i64 p0_4, .slice a_p0_5 q_p0_5 c_p0_5]), (1, .slice a_p1 q_p1 c_p1)]) ⟨rfl, rfl, trivial⟩ ?_
  obtain rfl := SlR.qlen h_p0_5
  obtain rfl := SlR.qlen h_p1
  refine WK.sub (e' := [(0, .agg #[.int .i64 p0_0, .int .i64 p0_1, .int .i64 p0_2, .int .i64 p0_3, .int .i64 p0_4, .slice a_p0_5 p0_5.length c_p0_5]), (1, .slice a_p1 p1.length c_p1)]) ⟨rfl, rfl, trivial⟩ ?_
  unfold terrain_with at hm
  refine WK_seq ?_
  refine WK_region ?_
  refine WO_box [.int .i64 p0_0, .int .i64 p0_1, .int .i64 p0_2, .int .i64 p0_3, .int .i64 p0_4, .slice a_p0_5 p0_5.length c_p0_5] rfl rfl trivial rfl rfl rfl (fun b3 => ?_)
  refine WO.cls (C' := St w0 m m [[⟨b3, 25, [.int .i64 p0_0, .int .i64 p0_1, .int .i64 p0_2, .int .i64 p0_3, .int .i64 p0_4, .slice a_p0_5 p0_5.length c_p0_5]⟩]]) (fun _ h => h) ?_
  refine WO_alloc tbok [.int .i64 0, .int .i64 0, .int .i64 0, .int .i64 0, .int .i64 0, .slice none 0 0] rfl rfl trivial rfl rfl rfl rfl (fun b4 => ?_)
  refine WO.cls (C' := St w0 m m [[⟨b3, 25, [.int .i64 p0_0, .int .i64 p0_1, .int .i64 p0_2, .int .i64 p0_3, .int .i64 p0_4, .slice a_p0_5 p0_5.length c_p0_5]⟩], [⟨b4, 25, [.int .i64 0, .int .i64 0, .int .i64 0, .int .i64 0, .int .i64 0, .slice none 0 0]⟩]]) (fun _ h => h) ?_
  refine WO_end ?_
  refine WK_seq ?_
  refine WK_region ?_
  refine WO_pure tbok 2 [(2, .pointer (some ⟨b3, 0, none⟩)), (4, .pointer (some ⟨b4, 0, none⟩)), (5, .slice a_p1 p1.length c_p1), (6, .pointer (some ⟨b3, 5, none⟩))] rfl ⟨rfl, rfl, rfl, rfl, trivial⟩ ?_
  refine WO_storeB tbok 0 [.int .i64 p0_0, .int .i64 p0_1, .int .i64 p0_2, .int .i64 p0_3, .int .i64 p0_4, .slice a_p1 p1.length c_p1] rfl rfl rfl rfl rfl rfl rfl ?_
  refine WO.cls (C' := St w0 m m [[⟨b3, 25, [.int .i64 p0_0, .int .i64 p0_1, .int .i64 p0_2, .int .i64 p0_3, .int .i64 p0_4, .slice a_p1 p1.length c_p1]⟩], [⟨b4, 25, [.int .i64 0, .int .i64 0, .int .i64 0, .int .i64 0, .int .i64 0, .slice none 0 0]⟩]]) (fun _ h => h) ?_
  refine WO_end ?_
  refine WK_seq ?_
  refine WK_region ?_
  refine WO_loadB tbok 0 rfl rfl rfl rfl (fun _ h => h) rfl rfl ?_
  refine WO_storeB tbok 1 [.int .i64 p0_0, .int .i64 p0_1, .int .i64 p0_2, .int .i64 p0_3, .int .i64 p0_4, .slice a_p1 p1.length c_p1] rfl rfl rfl rfl rfl rfl rfl ?_
  refine WO.cls (C' := St w0 m m [[⟨b3, 25, [.int .i64 p0_0, .int .i64 p0_1, .int .i64 p0_2, .int .i64 p0_3, .int .i64 p0_4, .slice a_p1 p1.length c_p1]⟩], [⟨b4, 25, [.int .i64 p0_0, .int .i64 p0_1, .int .i64 p0_2, .int .i64 p0_3, .int .i64 p0_4, .slice a_p1 p1.length c_p1]⟩]]) (fun _ h => h) ?_
  refine WO_end ?_
  cases hm
  exact WK_ret (ret_out (L := []) (RLc_cell tbok 1 rfl rfl rfl RLc_nil) (List.nil_sublist _) ⟨a_p1, p1.length, c_p1, rfl, h_p1⟩)
def terrain_filtered_Q (r : Int × Int × Int × Int × Int × List Int) : Value → Mu → List Ent → Prop := fun v m L => ∃ (a0 : Option Addr) (q0 c0 : Nat), v = .agg #[.int .i64 r.1, .int .i64 r.2.1, .int .i64 r.2.2.1, .int .i64 r.2.2.2.1, .int .i64 r.2.2.2.2.1, .slice a0 q0 c0] ∧ SlR (FE (I1 .i64)) 1 m (.slice a0 q0 c0) r.2.2.2.2.2
theorem terrain_filtered_walk {m : Mu} {p0_0 : Int} {p0_1 : Int} {p0_2 : Int} {p0_3 : Int} {p0_4 : Int} {p0_5 : List Int} {p1 : Int} {p2 : Int → Int → Option Int} {a_p0_5 : Option Addr} {q_p0_5 c_p0_5 : Nat} {p2v : Value} (h_p0_5 : SlR (FE (I1 .i64)) 1 m (.slice a_p0_5 q_p0_5 c_p0_5) p0_5) (hp2 : ∀ (m1 : Mu), Le m m1 → ∀ (u1 : Int), ∀ (u2 : Int), ∀ (r : Int), p2 u1 u2 = some r → SpecV Try.prog p2v [.int .i64 u1, .int .i64 u2] m1 (fun v _ _ => v = .int .i64 r)) {r : Int × Int × Int × Int × Int × List Int} (hm : terrain_filtered p0_0 p0_1 p0_2 p0_3 p0_4 p0_5 p1 p2 = some r) :
    Go.E.Spec Try.prog 52 [.agg #[.int .i64 p0_0, .int .i64 p0_1, .int .i64 p0_2, .int .i64 p0_3, .int .i64 p0_4, .slice a_p0_5 q_p0_5 c_p0_5], .int .i64 p1, p2v] m (terrain_filtered_Q r) := by
  refine Spec_enter Try.func52 rfl rfl rfl (fun w0 => ?_)
  refine WK.sub (e' := [(0, .agg #[.int .i64 p0_0, .int .i64 p0_1, .int .i64 p0_2, .int .i64 p0_3, .int .i64 p0_4, .slice a_p0_5 q_p0_5 c_p0_5]), (1, .int .i64 p1), (2, p2v)]) ⟨rfl, rfl, rfl, trivial⟩ ?_
  obtain rfl := SlR.qlen h_p0_5
  refine WK.sub (e' := [(0, .agg #[.int .i64 p0_0, .int .i64 p0_1, .int .i64 p0_2, .int .i64 p0_3, .int .i64 p0_4, .slice a_p0_5 p0_5.length c_p0_5]), (1, .int .i64 p1), (2, p2v)]) ⟨rfl, rfl, rfl, trivial⟩ ?_
  unfold terrain_filtered at hm
  refine WK_seq ?_
  refine WK_region ?_
  refine WO_box [.int .i64 p0_0, .int .i64 p0_1, .int .i64 p0_2, .int .i64 p0_3, .int .i64 p0_4, .slice a_p0_5 p0_5.length c_p0_5] rfl rfl trivial rfl rfl rfl (fun b2 => ?_)
  refine WO.cls (C' := St w0 m m [[⟨b2, 25, [.int .i64 p0_0, .int .i64 p0_1, .int .i64 p0_2, .int .i64 p0_3, .int .i64 p0_4, .slice a_p0_5 p0_5.length c_p0_5]⟩]]) (fun _ h => h) ?_
  refine WO_alloc tbok [.int .i64 0, .int .i64 0, .int .i64 0, .int .i64 0, .int .i64 0, .slice none 0 0] rfl rfl trivial rfl rfl rfl rfl (fun b3 => ?_)
  refine WO.cls (C' := St w0 m m [[⟨b2, 25, [.int .i64 p0_0, .int .i64 p0_1, .int .i64 p0_2, .int .i64 p0_3, .int .i64 p0_4, .slice a_p0_5 p0_5.length c_p0_5]⟩], [⟨b3, 25, [.int .i64 0, .int .i64 0, .int .i64 0, .int .i64 0, .int .i64 0, .slice none 0 0]⟩]]) (fun _ h => h) ?_
  refine WO_end ?_
  refine WK_seq ?_
  refine WK_region ?_
  refine WO_pure tbok 1 [(1, .int .i64 p1), (2, p2v), (3, .pointer (some ⟨b2, 0, none⟩)), (6, .pointer (some ⟨b3, 0, none⟩)), (15, .pointer (some ⟨b2, 5, none⟩))] rfl ⟨rfl, rfl, rfl, rfl, rfl, trivial⟩ ?_
  refine WO_loadB tbok 0 rfl rfl rfl rfl (fun _ h => h) rfl rfl ?_
  refine WO_pure tbok 1 [(1, .int .i64 p1), (2, p2v), (3, .pointer (some ⟨b2, 0, none⟩)), (6, .pointer (some ⟨b3, 0, none⟩)), (17, .int .i64 (p0_5.length : Int))] rfl ⟨rfl, rfl, rfl, rfl, rfl, trivial⟩ ?_
  obtain ⟨y_1, hc4, hm⟩ := bind_some hm
  refine WO_call1 (terrain_blank_Q y_1) rfl rfl trivial rfl rfl rfl rfl ⟨42, #[], #[], rfl, callable_42, fun w hw => ⟨_, hw.sat, terrain_blank_walk hc4⟩⟩ (fun v9 L8 hq => ?_)
  obtain ⟨a5, qa5, c6, rfl, hL8⟩ := hq
  obtain rfl := OwnE.qlen hL8
  refine WO.cls (C' := St w0 m m [[⟨b2, 25, [.int .i64 p0_0, .int .i64 p0_1, .int .i64 p0_2, .int .i64 p0_3, .int .i64 p0_4, .slice a_p0_5 p0_5.length c_p0_5]⟩], [⟨b3, 25, [.int .i64 0, .int .i64 0, .int .i64 0, .int .i64 0, .int .i64 0, .slice none 0 0]⟩], L8]) (fun _ h => h) ?_
  refine WO_pure tbok 1 [(1, .int .i64 p1), (2, p2v), (3, .pointer (some ⟨b2, 0, none⟩)), (6, .pointer (some ⟨b3, 0, none⟩)), (7, .slice a5 ((y_1).length) c6)] rfl ⟨rfl, rfl, rfl, rfl, rfl, trivial⟩ ?_
  refine WO_end ?_
  refine WK_seq ?_
  refine WK_seq ?_
  refine WK_region ?_
  refine WO_pure tbok 1 [(1, .int .i64 p1), (2, p2v), (3, .pointer (some ⟨b2, 0, none⟩)), (6, .pointer (some ⟨b3, 0, none⟩)), (7, .slice a5 ((y_1).length) c6), (19, .pointer (some ⟨b2, 5, none⟩))] rfl ⟨rfl, rfl, rfl, rfl, rfl, rfl, trivial⟩ ?_
  refine WO_loadB tbok 0 rfl rfl rfl rfl (fun _ h => h) rfl rfl ?_
  refine WO_pure tbok 2 [(1, .int .i64 p1), (2, p2v), (3, .pointer (some ⟨b2, 0, none⟩)), (6, .pointer (some ⟨b3, 0, none⟩)), (7, .slice a5 ((y_1).length) c6), (20, .slice a_p0_5 p0_5.length c_p0_5), (21, .int .i64 (p0_5.length : Int)), (22, .int .i64 0)] rfl ⟨rfl, rfl, rfl, rfl, rfl, rfl, rfl, rfl, trivial⟩ ?_
  refine WO_end ?_
  obtain ⟨x14, hx15, hm⟩ := bind_some hm
  refine WK_join (β := (List Int) × (List Ent)) (fun p => p.1 = x14 ∧ OwnE 3 1 (I1 .i64) (.slice a5 ((y_1).length) c6) p.1 p.2) (fun p => [(3, .pointer (some ⟨b2, 0, none⟩)), (6, .pointer (some ⟨b3, 0, none⟩)), (7, .slice a5 ((y_1).length) c6)]) (fun p => St w0 m m [[⟨b2, 25, [.int .i64 p0_0, .int .i64 p0_1, .int .i64 p0_2, .int .i64 p0_3, .int .i64 p0_4, .slice a_p0_5 p0_5.length c_p0_5]⟩], [⟨b3, 25, [.int .i64 0, .int .i64 0, .int .i64 0, .int .i64 0, .int .i64 0, .slice none 0 0]⟩], p.2]) ?_ (fun hk16 => ?_)
  · rintro ⟨l_4, L13⟩ ⟨hq22, hL13⟩
    subst hq22
    refine WK.sub (e' := [(3, .pointer (some ⟨b2, 0, none⟩)), (6, .pointer (some ⟨b3, 0, none⟩)), (7, .slice a5 ((y_1).length) c6)]) ⟨rfl, rfl, rfl, trivial⟩ (WK.cls (C' := St w0 m m [[⟨b2, 25, [.int .i64 p0_0, .int .i64 p0_1, .int .i64 p0_2, .int .i64 p0_3, .int .i64 p0_4, .slice a_p0_5 p0_5.length c_p0_5]⟩], [⟨b3, 25, [.int .i64 0, .int .i64 0, .int .i64 0, .int .i64 0, .int .i64 0, .slice none 0 0]⟩], L13]) (fun _ h => h) ?_)
    refine WK_seq ?_
    refine WK_region ?_
    refine WO_loadB tbok 0 rfl rfl rfl rfl (fun _ h => h) rfl rfl ?_
    refine WO_pure tbok 1 [(6, .pointer (some ⟨b3, 0, none⟩)), (94, .agg #[.int .i64 p0_0, .int .i64 p0_1, .int .i64 p0_2, .int .i64 p0_3, .int .i64 p0_4, .slice a_p0_5 p0_5.length c_p0_5]), (95, .slice a5 ((y_1).length) c6)] rfl ⟨rfl, rfl, rfl, trivial⟩ ?_
    refine WO_freeze 2 rfl (fun m23 hle24 hmm25 => ?_)
    refine WO.cls (C' := St w0 m m23 [[⟨b2, 25, [.int .i64 p0_0, .int .i64 p0_1, .int .i64 p0_2, .int .i64 p0_3, .int .i64 p0_4, .slice a_p0_5 p0_5.length c_p0_5]⟩], [⟨b3, 25, [.int .i64 0, .int .i64 0, .int .i64 0, .int .i64 0, .int .i64 0, .slice none 0 0]⟩], []]) (fun _ h => h) ?_
    obtain ⟨⟨y_5, y_6, y_7, y_8, y_9, y_10⟩, hc26, hm⟩ := bind_some hm
    refine WO_call2 (terrain_with_Q (y_5, y_6, y_7, y_8, y_9, y_10)) rfl rfl trivial rfl rfl rfl rfl ⟨44, #[], #[], rfl, callable_44, terrain_with_walk (h_p0_5.mono (mono_FE _) hle24) (OwnE.rd (E := (I1 .i64)) (k := 1) (fun _ => rfl) hL13 hmm25) hc26⟩ (fun v31 m32 L30 hle33 hq => ?_)
    obtain ⟨a27, qa27, c28, rfl, h34⟩ := hq
    obtain rfl := SlR.qlen h34
    refine WO.cls (C' := St w0 m m32 [[⟨b2, 25, [.int .i64 p0_0, .int .i64 p0_1, .int .i64 p0_2, .int .i64 p0_3, .int .i64 p0_4, .slice a_p0_5 p0_5.length c_p0_5]⟩], [⟨b3, 25, [.int .i64 0, .int .i64 0, .int .i64 0, .int .i64 0, .int .i64 0, .slice none 0 0]⟩], [], L30]) (fun _ h => h.sub (by simp)) ?_
    refine WO_storeB tbok 1 [.int .i64 y_5, .int .i64 y_6, .int .i64 y_7, .int .i64 y_8, .int .i64 y_9, .slice a27 ((y_10).length) c28] rfl rfl rfl rfl rfl rfl rfl ?_
    refine WO.cls (C' := St w0 m m32 [[⟨b2, 25, [.int .i64 p0_0, .int .i64 p0_1, .int .i64 p0_2, .int .i64 p0_3, .int .i64 p0_4, .slice a_p0_5 p0_5.length c_p0_5]⟩], [⟨b3, 25, [.int .i64 y_5, .int .i64 y_6, .int .i64 y_7, .int .i64 y_8, .int .i64 y_9, .slice a27 ((y_10).length) c28]⟩], [], L30]) (fun _ h => h) ?_
    refine WO_end ?_
    cases hm
    exact WK_ret (ret_out (L := []) (RLc_cell tbok 1 rfl rfl rfl RLc_nil) (List.nil_sublist _) ⟨a27, _, c28, rfl, h34⟩)
  · refine WK_block ?_
    refine WK_loop (S := List Int × Int) (G := List Ent) (fun s => terrain_filtered_s1 p0_3 p0_4 p0_5 p1 p2 s.1 s.2) (fun s g => [(1, .int .i64 p1), (2, p2v), (3, .pointer (some ⟨b2, 0, none⟩)), (6, .pointer (some ⟨b3, 0, none⟩)), (7, .slice a5 ((y_1).length) c6), (20, .slice a_p0_5 p0_5.length c_p0_5), (21, .int .i64 (p0_5.length : Int)), (22, .int .i64 s.2)]) (fun s g => St w0 m m [[⟨b2, 25, [.int .i64 p0_0, .int .i64 p0_1, .int .i64 p0_2, .int .i64 p0_3, .int .i64 p0_4, .slice a_p0_5 p0_5.length c_p0_5]⟩], [⟨b3, 25, [.int .i64 0, .int .i64 0, .int .i64 0, .int .i64 0, .int .i64 0, .slice none 0 0]⟩], g]) (fun s g => OwnE 3 1 (I1 .i64) (.slice a5 ((y_1).length) c6) s.1 g) FUEL (y_1, 0) L8 x14 hx15 hL8 ⟨rfl, rfl, rfl, rfl, rfl, rfl, rfl, rfl, trivial⟩ (fun _ h => h) ?_
    rintro ⟨l_2, s_3⟩ L11 o18 fl19 hm17 hL11 hn20 hd21
    have hm17 : terrain_filtered_s1 p0_3 p0_4 p0_5 p1 p2 l_2 s_3 = some o18 := hm17
    unfold terrain_filtered_s1 at hm17
    refine WK.sub (e' := [(1, .int .i64 p1), (2, p2v), (3, .pointer (some ⟨b2, 0, none⟩)), (6, .pointer (some ⟨b3, 0, none⟩)), (7, .slice a5 ((y_1).length) c6), (20, .slice a_p0_5 p0_5.length c_p0_5), (21, .int .i64 (p0_5.length : Int)), (22, .int .i64 s_3)]) ⟨rfl, rfl, rfl, rfl, rfl, rfl, rfl, rfl, trivial⟩ (WK.cls (C' := St w0 m m [[⟨b2, 25, [.int .i64 p0_0, .int .i64 p0_1, .int .i64 p0_2, .int .i64 p0_3, .int .i64 p0_4, .slice a_p0_5 p0_5.length c_p0_5]⟩], [⟨b3, 25, [.int .i64 0, .int .i64 0, .int .i64 0, .int .i64 0, .int .i64 0, .slice none 0 0]⟩], L11]) (fun _ h => h) ?_)
    refine WK_seq ?_
    refine WK_region ?_
    refine WO_pure tbok 1 [(1, .int .i64 p1), (2, p2v), (3, .pointer (some ⟨b2, 0, none⟩)), (6, .pointer (some ⟨b3, 0, none⟩)), (7, .slice a5 ((y_1).length) c6), (20, .slice a_p0_5 p0_5.length c_p0_5), (21, .int .i64 (p0_5.length : Int)), (22, .int .i64 s_3), (23, .bool (decide (s_3 < (p0_5.length : Int))))] rfl ⟨rfl, rfl, rfl, rfl, rfl, rfl, rfl, rfl, rfl, trivial⟩ ?_
    refine WO_end ?_
    refine WK_seq ?_
    refine WK_cond (b := decide (s_3 < (p0_5.length : Int))) rfl (fun hb35 => ?_) (fun hb35 => ?_)
    · have hm17 := ifT hb35 hm17
      refine WK_skip ?_
      refine WK_seq ?_
      refine WK_block ?_
      refine WK_seq ?_
      refine WK_region ?_
      refine WO_pure tbok 1 [(1, .int .i64 p1), (2, p2v), (3, .pointer (some ⟨b2, 0, none⟩)), (6, .pointer (some ⟨b3, 0, none⟩)), (7, .slice a5 ((y_1).length) c6), (20, .slice a_p0_5 p0_5.length c_p0_5), (21, .int .i64 (p0_5.length : Int)), (22, .int .i64 s_3), (24, .int .i64 s_3)] rfl ⟨rfl, rfl, rfl, rfl, rfl, rfl, rfl, rfl, rfl, trivial⟩ ?_
      obtain ⟨v_11, hy36, hm17⟩ := bind_some hm17
      obtain ⟨hc37, hy36⟩ := ix_some hy36
      refine WO_index tbok rfl rfl rfl rfl rfl rfl rfl rfl (SlR.addr h_p0_5) hc37 ?_
      refine WO_loadE tbok rfl rfl rfl rfl (fun _ h => St.sat h) h_p0_5 hy36 rfl ?_
      refine WO_pure tbok 2 [(1, .int .i64 p1), (2, p2v), (3, .pointer (some ⟨b2, 0, none⟩)), (6, .pointer (some ⟨b3, 0, none⟩)), (7, .slice a5 ((y_1).length) c6), (8, .int .i64 s_3), (9, .int .i64 v_11), (20, .slice a_p0_5 p0_5.length c_p0_5), (21, .int .i64 (p0_5.length : Int)), (22, .int .i64 s_3)] rfl ⟨rfl, rfl, rfl, rfl, rfl, rfl, rfl, rfl, rfl, rfl, trivial⟩ ?_
      refine WO_end ?_
      refine WK_seq ?_
      refine WK_seq ?_
      refine WK_region ?_
      refine WO_pure tbok 2 [(1, .int .i64 p1), (2, p2v), (3, .pointer (some ⟨b2, 0, none⟩)), (6, .pointer (some ⟨b3, 0, none⟩)), (7, .slice a5 ((y_1).length) c6), (8, .int .i64 s_3), (9, .int .i64 v_11), (20, .slice a_p0_5 p0_5.length c_p0_5), (21, .int .i64 (p0_5.length : Int)), (22, .int .i64 s_3), (28, .bool (v_11 == (-2147483648)))] rfl ⟨rfl, rfl, rfl, rfl, rfl, rfl, rfl, rfl, rfl, rfl, rfl, trivial⟩ ?_
      refine WO_end ?_
      refine WK_cond (b := v_11 == (-2147483648)) rfl (fun hb38 => ?_) (fun hb38 => ?_)
      · have hm17 := ifT hb38 hm17
        refine WK_exit rfl ?_
        refine WK_region ?_
        refine WO_pure tbok 2 [(1, .int .i64 p1), (2, p2v), (3, .pointer (some ⟨b2, 0, none⟩)), (6, .pointer (some ⟨b3, 0, none⟩)), (7, .slice a5 ((y_1).length) c6), (20, .slice a_p0_5 p0_5.length c_p0_5), (21, .int .i64 (p0_5.length : Int)), (22, .int .i64 (w64 (s_3 + 1)))] rfl ⟨rfl, rfl, rfl, rfl, rfl, rfl, rfl, rfl, trivial⟩ ?_
        refine WO_end ?_
        cases hm17
        refine WK.sub ?_ (WK.cls (fun _ h => h) (hn20 _ L11 rfl hL11))
        exact ⟨rfl, rfl, rfl, rfl, rfl, rfl, rfl, rfl, trivial⟩
      · have hm17 := ifF hb38 hm17
        refine WK_skip ?_
        refine WK_seq ?_
        refine WK_region ?_
        refine WO_pure tbok 3 [(1, .int .i64 p1), (2, p2v), (3, .pointer (some ⟨b2, 0, none⟩)), (6, .pointer (some ⟨b3, 0, none⟩)), (7, .slice a5 ((y_1).length) c6), (8, .int .i64 s_3), (20, .slice a_p0_5 p0_5.length c_p0_5), (21, .int .i64 (p0_5.length : Int)), (22, .int .i64 s_3), (29, .slice a5 ((y_1).length) c6), (30, .int .i64 s_3), (31, .int .i64 v_11)] rfl ⟨rfl, rfl, rfl, rfl, rfl, rfl, rfl, rfl, rfl, rfl, rfl, rfl, trivial⟩ ?_
        obtain ⟨hc39, hm17⟩ := chk_some hm17
        refine WO_index tbok rfl rfl rfl rfl rfl rfl rfl rfl (OwnE.addr hL11) (by simpa using hc39) ?_
        refine WO_storeO (E := (I1 .i64)) tbok (fun _ => rfl) 2 v_11 rfl rfl rfl rfl rfl hL11 rfl (by simpa using idx_lt hc39) rfl rfl rfl rfl (fun L40 hL40 => ?_)
        refine WO.cls (C' := St w0 m m [[⟨b2, 25, [.int .i64 p0_0, .int .i64 p0_1, .int .i64 p0_2, .int .i64 p0_3, .int .i64 p0_4, .slice a_p0_5 p0_5.length c_p0_5]⟩], [⟨b3, 25, [.int .i64 0, .int .i64 0, .int .i64 0, .int .i64 0, .int .i64 0, .slice none 0 0]⟩], L40]) (fun _ h => h) ?_
        refine WO_end ?_
        refine WK_seq ?_
        refine WK_draw 10 [0, 1, 2, 3, 4, 5, 6, 7, 8, 9] follows_ok (by kernel_rfl) St_closed ?_
        refine WO_pure tbok 2 [(1, .int .i64 p1), (2, p2v), (3, .pointer (some ⟨b2, 0, none⟩)), (6, .pointer (some ⟨b3, 0, none⟩)), (7, .slice a5 ((y_1).length) c6), (8, .int .i64 s_3), (20, .slice a_p0_5 p0_5.length c_p0_5), (21, .int .i64 (p0_5.length : Int)), (22, .int .i64 s_3), (33, .int .i64 s_3), (34, .pointer (some ⟨b2, 3, none⟩))] rfl ⟨rfl, rfl, rfl, rfl, rfl, rfl, rfl, rfl, rfl, rfl, rfl, trivial⟩ ?_
        refine WO_loadB tbok 0 rfl rfl rfl rfl (fun _ h => h) rfl rfl ?_
        obtain ⟨hc42, hm17⟩ := chk_some hm17
        refine WO_rem rfl rfl rfl rfl rfl hc42 ?_
        refine WO_pure tbok 2 [(1, .int .i64 p1), (2, p2v), (3, .pointer (some ⟨b2, 0, none⟩)), (6, .pointer (some ⟨b3, 0, none⟩)), (7, .slice a5 ((y_1).length) c6), (8, .int .i64 s_3), (20, .slice a_p0_5 p0_5.length c_p0_5), (21, .int .i64 (p0_5.length : Int)), (22, .int .i64 s_3), (36, .int .i64 (Int.tmod s_3 p0_3)), (37, .int .i64 s_3), (38, .pointer (some ⟨b2, 3, none⟩))] rfl ⟨rfl, rfl, rfl, rfl, rfl, rfl, rfl, rfl, rfl, rfl, rfl, rfl, trivial⟩ ?_
        refine WO_loadB tbok 0 rfl rfl rfl rfl (fun _ h => h) rfl rfl ?_
        obtain ⟨hc43, hm17⟩ := chk_some hm17
        refine WO_quo rfl rfl rfl rfl rfl hc43 ?_
        refine WO_pure tbok 2 [(1, .int .i64 p1), (2, p2v), (3, .pointer (some ⟨b2, 0, none⟩)), (6, .pointer (some ⟨b3, 0, none⟩)), (7, .slice a5 ((y_1).length) c6), (8, .int .i64 s_3), (10, .int .i64 (Int.tmod s_3 p0_3)), (11, .int .i64 (w64 (Int.tdiv s_3 p0_3))), (20, .slice a_p0_5 p0_5.length c_p0_5), (21, .int .i64 (p0_5.length : Int)), (22, .int .i64 s_3)] rfl ⟨rfl, rfl, rfl, rfl, rfl, rfl, rfl, rfl, rfl, rfl, rfl, trivial⟩ ?_
        refine WO_tail ?_
        refine WO_end ?_
        refine WK_seq ?_
        refine WK_region ?_
        refine WO_pure tbok 5 [(1, .int .i64 p1), (2, p2v), (3, .pointer (some ⟨b2, 0, none⟩)), (6, .pointer (some ⟨b3, 0, none⟩)), (7, .slice a5 ((y_1).length) c6), (8, .int .i64 s_3), (10, .int .i64 (Int.tmod s_3 p0_3)), (11, .int .i64 (w64 (Int.tdiv s_3 p0_3))), (12, .int .i64 (if 0 < (w64 ((w64 (Int.tdiv s_3 p0_3)) - p1)) then (w64 ((w64 (Int.tdiv s_3 p0_3)) - p1)) else 0)), (20, .slice a_p0_5 p0_5.length c_p0_5), (21, .int .i64 (p0_5.length : Int)), (22, .int .i64 s_3)] rfl ⟨rfl, rfl, rfl, rfl, rfl, rfl, rfl, rfl, rfl, rfl, rfl, rfl, trivial⟩ ?_
        refine WO_end ?_
        obtain ⟨x48, hx49, hm17⟩ := bind_some hm17
        refine WK_join (β := (List Int) × (List Ent)) (fun p => p.1 = x48 ∧ OwnE 3 1 (I1 .i64) (.slice a5 ((y_1).length) c6) p.1 p.2) (fun p => [(1, .int .i64 p1), (2, p2v), (3, .pointer (some ⟨b2, 0, none⟩)), (6, .pointer (some ⟨b3, 0, none⟩)), (7, .slice a5 ((y_1).length) c6), (20, .slice a_p0_5 p0_5.length c_p0_5), (21, .int .i64 (p0_5.length : Int)), (22, .int .i64 s_3)]) (fun p => St w0 m m [[⟨b2, 25, [.int .i64 p0_0, .int .i64 p0_1, .int .i64 p0_2, .int .i64 p0_3, .int .i64 p0_4, .slice a_p0_5 p0_5.length c_p0_5]⟩], [⟨b3, 25, [.int .i64 0, .int .i64 0, .int .i64 0, .int .i64 0, .int .i64 0, .slice none 0 0]⟩], p.2]) ?_ (fun hk50 => ?_)
        · rintro ⟨l_14, L47⟩ ⟨hq56, hL47⟩
          subst hq56
          refine WK.sub (e' := [(1, .int .i64 p1), (2, p2v), (3, .pointer (some ⟨b2, 0, none⟩)), (6, .pointer (some ⟨b3, 0, none⟩)), (7, .slice a5 ((y_1).length) c6), (20, .slice a_p0_5 p0_5.length c_p0_5), (21, .int .i64 (p0_5.length : Int)), (22, .int .i64 s_3)]) ⟨rfl, rfl, rfl, rfl, rfl, rfl, rfl, rfl, trivial⟩ (WK.cls (C' := St w0 m m [[⟨b2, 25, [.int .i64 p0_0, .int .i64 p0_1, .int .i64 p0_2, .int .i64 p0_3, .int .i64 p0_4, .slice a_p0_5 p0_5.length c_p0_5]⟩], [⟨b3, 25, [.int .i64 0, .int .i64 0, .int .i64 0, .int .i64 0, .int .i64 0, .slice none 0 0]⟩], L47]) (fun _ h => h) ?_)
          refine WK_blk ?_
          refine WK_region ?_
          refine WO_pure tbok 2 [(1, .int .i64 p1), (2, p2v), (3, .pointer (some ⟨b2, 0, none⟩)), (6, .pointer (some ⟨b3, 0, none⟩)), (7, .slice a5 ((y_1).length) c6), (20, .slice a_p0_5 p0_5.length c_p0_5), (21, .int .i64 (p0_5.length : Int)), (22, .int .i64 (w64 (s_3 + 1)))] rfl ⟨rfl, rfl, rfl, rfl, rfl, rfl, rfl, rfl, trivial⟩ ?_
          refine WO_end ?_
          cases hm17
          refine WK.sub ?_ (WK.cls (fun _ h => h) (hn20 _ L47 rfl hL47))
          exact ⟨rfl, rfl, rfl, rfl, rfl, rfl, rfl, rfl, trivial⟩
        · refine WK_block ?_
          refine WK_loop (S := List Int × Int) (G := List Ent) (fun s => terrain_filtered_s2 p0_3 p0_4 p0_5 p1 p2 s_3 s.1 s.2) (fun s g => [(1, .int .i64 p1), (2, p2v), (3, .pointer (some ⟨b2, 0, none⟩)), (6, .pointer (some ⟨b3, 0, none⟩)), (7, .slice a5 ((y_1).length) c6), (8, .int .i64 s_3), (10, .int .i64 (Int.tmod s_3 p0_3)), (11, .int .i64 (w64 (Int.tdiv s_3 p0_3))), (12, .int .i64 s.2), (20, .slice a_p0_5 p0_5.length c_p0_5), (21, .int .i64 (p0_5.length : Int)), (22, .int .i64 s_3)]) (fun s g => St w0 m m [[⟨b2, 25, [.int .i64 p0_0, .int .i64 p0_1, .int .i64 p0_2, .int .i64 p0_3, .int .i64 p0_4, .slice a_p0_5 p0_5.length c_p0_5]⟩], [⟨b3, 25, [.int .i64 0, .int .i64 0, .int .i64 0, .int .i64 0, .int .i64 0, .slice none 0 0]⟩], g]) (fun s g => OwnE 3 1 (I1 .i64) (.slice a5 ((y_1).length) c6) s.1 g) FUEL ((l_2.set s_3.toNat v_11), (if 0 < (w64 ((w64 (Int.tdiv s_3 p0_3)) - p1)) then (w64 ((w64 (Int.tdiv s_3 p0_3)) - p1)) else 0)) L40 x48 hx49 hL40 ⟨rfl, rfl, rfl, rfl, rfl, rfl, rfl, rfl, rfl, rfl, rfl, rfl, trivial⟩ (fun _ h => h) ?_
          rintro ⟨l_12, s_13⟩ L45 o52 fl53 hm51 hL45 hn54 hd55
          have hm51 : terrain_filtered_s2 p0_3 p0_4 p0_5 p1 p2 s_3 l_12 s_13 = some o52 := hm51
          unfold terrain_filtered_s2 at hm51
          refine WK.sub (e' := [(1, .int .i64 p1), (2, p2v), (3, .pointer (some ⟨b2, 0, none⟩)), (6, .pointer (some ⟨b3, 0, none⟩)), (7, .slice a5 ((y_1).length) c6), (8, .int .i64 s_3), (10, .int .i64 (Int.tmod s_3 p0_3)), (11, .int .i64 (w64 (Int.tdiv s_3 p0_3))), (12, .int .i64 s_13), (20, .slice a_p0_5 p0_5.length c_p0_5), (21, .int .i64 (p0_5.length : Int)), (22, .int .i64 s_3)]) ⟨rfl, rfl, rfl, rfl, rfl, rfl, rfl, rfl, rfl, rfl, rfl, rfl, trivial⟩ (WK.cls (C' := St w0 m m [[⟨b2, 25, [.int .i64 p0_0, .int .i64 p0_1, .int .i64 p0_2, .int .i64 p0_3, .int .i64 p0_4, .slice a_p0_5 p0_5.length c_p0_5]⟩], [⟨b3, 25, [.int .i64 0, .int .i64 0, .int .i64 0, .int .i64 0, .int .i64 0, .slice none 0 0]⟩], L45]) (fun _ h => h) ?_)
          refine WK_seq ?_
          refine WK_seq ?_
          refine WK_region ?_
          refine WO_pure tbok 2 [(1, .int .i64 p1), (2, p2v), (3, .pointer (some ⟨b2, 0, none⟩)), (6, .pointer (some ⟨b3, 0, none⟩)), (7, .slice a5 ((y_1).length) c6), (8, .int .i64 s_3), (10, .int .i64 (Int.tmod s_3 p0_3)), (11, .int .i64 (w64 (Int.tdiv s_3 p0_3))), (12, .int .i64 s_13), (20, .slice a_p0_5 p0_5.length c_p0_5), (21, .int .i64 (p0_5.length : Int)), (22, .int .i64 s_3), (45, .int .i64 s_13), (46, .pointer (some ⟨b2, 4, none⟩))] rfl ⟨rfl, rfl, rfl, rfl, rfl, rfl, rfl, rfl, rfl, rfl, rfl, rfl, rfl, rfl, trivial⟩ ?_
          refine WO_loadB tbok 0 rfl rfl rfl rfl (fun _ h => h) rfl rfl ?_
          refine WO_pure tbok 6 [(1, .int .i64 p1), (2, p2v), (3, .pointer (some ⟨b2, 0, none⟩)), (6, .pointer (some ⟨b3, 0, none⟩)), (7, .slice a5 ((y_1).length) c6), (8, .int .i64 s_3), (10, .int .i64 (Int.tmod s_3 p0_3)), (11, .int .i64 (w64 (Int.tdiv s_3 p0_3))), (12, .int .i64 s_13), (20, .slice a_p0_5 p0_5.length c_p0_5), (21, .int .i64 (p0_5.length : Int)), (22, .int .i64 s_3), (53, .bool (decide (s_13 ≤ (if (w64 ((w64 (Int.tdiv s_3 p0_3)) + p1)) < (w64 (p0_4 - 1)) then (w64 ((w64 (Int.tdiv s_3 p0_3)) + p1)) else (w64 (p0_4 - 1))))))] rfl ⟨rfl, rfl, rfl, rfl, rfl, rfl, rfl, rfl, rfl, rfl, rfl, rfl, rfl, trivial⟩ ?_
          refine WO_end ?_
          refine WK_cond (b := decide (s_13 ≤ (if (w64 ((w64 (Int.tdiv s_3 p0_3)) + p1)) < (w64 (p0_4 - 1)) then (w64 ((w64 (Int.tdiv s_3 p0_3)) + p1)) else (w64 (p0_4 - 1))))) rfl (fun hb57 => ?_) (fun hb57 => ?_)
          · have hm51 := ifT hb57 hm51
            refine WK_skip ?_
            refine WK_seq ?_
            refine WK_block ?_
            refine WK_seq ?_
            refine WK_region ?_
            refine WO_pure tbok 5 [(1, .int .i64 p1), (2, p2v), (3, .pointer (some ⟨b2, 0, none⟩)), (6, .pointer (some ⟨b3, 0, none⟩)), (7, .slice a5 ((y_1).length) c6), (8, .int .i64 s_3), (10, .int .i64 (Int.tmod s_3 p0_3)), (11, .int .i64 (w64 (Int.tdiv s_3 p0_3))), (12, .int .i64 s_13), (13, .int .i64 (if 0 < (w64 ((Int.tmod s_3 p0_3) - p1)) then (w64 ((Int.tmod s_3 p0_3) - p1)) else 0)), (20, .slice a_p0_5 p0_5.length c_p0_5), (21, .int .i64 (p0_5.length : Int)), (22, .int .i64 s_3)] rfl ⟨rfl, rfl, rfl, rfl, rfl, rfl, rfl, rfl, rfl, rfl, rfl, rfl, rfl, trivial⟩ ?_
            refine WO_end ?_
            obtain ⟨x62, hx63, hm51⟩ := bind_some hm51
            refine WK_join (β := (List Int) × (List Ent)) (fun p => p.1 = x62 ∧ OwnE 3 1 (I1 .i64) (.slice a5 ((y_1).length) c6) p.1 p.2) (fun p => [(1, .int .i64 p1), (2, p2v), (3, .pointer (some ⟨b2, 0, none⟩)), (6, .pointer (some ⟨b3, 0, none⟩)), (7, .slice a5 ((y_1).length) c6), (8, .int .i64 s_3), (10, .int .i64 (Int.tmod s_3 p0_3)), (11, .int .i64 (w64 (Int.tdiv s_3 p0_3))), (12, .int .i64 s_13), (20, .slice a_p0_5 p0_5.length c_p0_5), (21, .int .i64 (p0_5.length : Int)), (22, .int .i64 s_3)]) (fun p => St w0 m m [[⟨b2, 25, [.int .i64 p0_0, .int .i64 p0_1, .int .i64 p0_2, .int .i64 p0_3, .int .i64 p0_4, .slice a_p0_5 p0_5.length c_p0_5]⟩], [⟨b3, 25, [.int .i64 0, .int .i64 0, .int .i64 0, .int .i64 0, .int .i64 0, .slice none 0 0]⟩], p.2]) ?_ (fun hk64 => ?_)
            · rintro ⟨l_17, L61⟩ ⟨hq70, hL61⟩
              subst hq70
              refine WK.sub (e' := [(1, .int .i64 p1), (2, p2v), (3, .pointer (some ⟨b2, 0, none⟩)), (6, .pointer (some ⟨b3, 0, none⟩)), (7, .slice a5 ((y_1).length) c6), (8, .int .i64 s_3), (10, .int .i64 (Int.tmod s_3 p0_3)), (11, .int .i64 (w64 (Int.tdiv s_3 p0_3))), (12, .int .i64 s_13), (20, .slice a_p0_5 p0_5.length c_p0_5), (21, .int .i64 (p0_5.length : Int)), (22, .int .i64 s_3)]) ⟨rfl, rfl, rfl, rfl, rfl, rfl, rfl, rfl, rfl, rfl, rfl, rfl, trivial⟩ (WK.cls (C' := St w0 m m [[⟨b2, 25, [.int .i64 p0_0, .int .i64 p0_1, .int .i64 p0_2, .int .i64 p0_3, .int .i64 p0_4, .slice a_p0_5 p0_5.length c_p0_5]⟩], [⟨b3, 25, [.int .i64 0, .int .i64 0, .int .i64 0, .int .i64 0, .int .i64 0, .slice none 0 0]⟩], L61]) (fun _ h => h) ?_)
              refine WK_blk ?_
              refine WK_region ?_
              refine WO_pure tbok 3 [(1, .int .i64 p1), (2, p2v), (3, .pointer (some ⟨b2, 0, none⟩)), (6, .pointer (some ⟨b3, 0, none⟩)), (7, .slice a5 ((y_1).length) c6), (8, .int .i64 s_3), (10, .int .i64 (Int.tmod s_3 p0_3)), (11, .int .i64 (w64 (Int.tdiv s_3 p0_3))), (12, .int .i64 (w64 (s_13 + 1))), (20, .slice a_p0_5 p0_5.length c_p0_5), (21, .int .i64 (p0_5.length : Int)), (22, .int .i64 s_3)] rfl ⟨rfl, rfl, rfl, rfl, rfl, rfl, rfl, rfl, rfl, rfl, rfl, rfl, trivial⟩ ?_
              refine WO_end ?_
              cases hm51
              refine WK.sub ?_ (WK.cls (fun _ h => h) (hn54 _ L61 rfl hL61))
              exact ⟨rfl, rfl, rfl, rfl, rfl, rfl, rfl, rfl, rfl, rfl, rfl, rfl, trivial⟩
            · refine WK_block ?_
              refine WK_loop (S := List Int × Int) (G := List Ent) (fun s => terrain_filtered_s3 p0_3 p0_5 p1 p2 s_3 s_13 s.1 s.2) (fun s g => [(1, .int .i64 p1), (2, p2v), (3, .pointer (some ⟨b2, 0, none⟩)), (6, .pointer (some ⟨b3, 0, none⟩)), (7, .slice a5 ((y_1).length) c6), (8, .int .i64 s_3), (10, .int .i64 (Int.tmod s_3 p0_3)), (11, .int .i64 (w64 (Int.tdiv s_3 p0_3))), (12, .int .i64 s_13), (13, .int .i64 s.2), (20, .slice a_p0_5 p0_5.length c_p0_5), (21, .int .i64 (p0_5.length : Int)), (22, .int .i64 s_3)]) (fun s g => St w0 m m [[⟨b2, 25, [.int .i64 p0_0, .int .i64 p0_1, .int .i64 p0_2, .int .i64 p0_3, .int .i64 p0_4, .slice a_p0_5 p0_5.length c_p0_5]⟩], [⟨b3, 25, [.int .i64 0, .int .i64 0, .int .i64 0, .int .i64 0, .int .i64 0, .slice none 0 0]⟩], g]) (fun s g => OwnE 3 1 (I1 .i64) (.slice a5 ((y_1).length) c6) s.1 g) FUEL (l_12, (if 0 < (w64 ((Int.tmod s_3 p0_3) - p1)) then (w64 ((Int.tmod s_3 p0_3) - p1)) else 0)) L45 x62 hx63 hL45 ⟨rfl, rfl, rfl, rfl, rfl, rfl, rfl, rfl, rfl, rfl, rfl, rfl, rfl, trivial⟩ (fun _ h => h) ?_
              rintro ⟨l_15, s_16⟩ L59 o66 fl67 hm65 hL59 hn68 hd69
              have hm65 : terrain_filtered_s3 p0_3 p0_5 p1 p2 s_3 s_13 l_15 s_16 = some o66 := hm65
              unfold terrain_filtered_s3 at hm65
              refine WK.sub (e' := [(1, .int .i64 p1), (2, p2v), (3, .pointer (some ⟨b2, 0, none⟩)), (6, .pointer (some ⟨b3, 0, none⟩)), (7, .slice a5 ((y_1).length) c6), (8, .int .i64 s_3), (10, .int .i64 (Int.tmod s_3 p0_3)), (11, .int .i64 (w64 (Int.tdiv s_3 p0_3))), (12, .int .i64 s_13), (13, .int .i64 s_16), (20, .slice a_p0_5 p0_5.length c_p0_5), (21, .int .i64 (p0_5.length : Int)), (22, .int .i64 s_3)]) ⟨rfl, rfl, rfl, rfl, rfl, rfl, rfl, rfl, rfl, rfl, rfl, rfl, rfl, trivial⟩ (WK.cls (C' := St w0 m m [[⟨b2, 25, [.int .i64 p0_0, .int .i64 p0_1, .int .i64 p0_2, .int .i64 p0_3, .int .i64 p0_4, .slice a_p0_5 p0_5.length c_p0_5]⟩], [⟨b3, 25, [.int .i64 0, .int .i64 0, .int .i64 0, .int .i64 0, .int .i64 0, .slice none 0 0]⟩], L59]) (fun _ h => h) ?_)
              refine WK_seq ?_
              refine WK_seq ?_
              refine WK_region ?_
              refine WO_pure tbok 2 [(1, .int .i64 p1), (2, p2v), (3, .pointer (some ⟨b2, 0, none⟩)), (6, .pointer (some ⟨b3, 0, none⟩)), (7, .slice a5 ((y_1).length) c6), (8, .int .i64 s_3), (10, .int .i64 (Int.tmod s_3 p0_3)), (11, .int .i64 (w64 (Int.tdiv s_3 p0_3))), (12, .int .i64 s_13), (13, .int .i64 s_16), (20, .slice a_p0_5 p0_5.length c_p0_5), (21, .int .i64 (p0_5.length : Int)), (22, .int .i64 s_3), (60, .int .i64 s_16), (61, .pointer (some ⟨b2, 3, none⟩))] rfl ⟨rfl, rfl, rfl, rfl, rfl, rfl, rfl, rfl, rfl, rfl, rfl, rfl, rfl, rfl, rfl, trivial⟩ ?_
              refine WO_loadB tbok 0 rfl rfl rfl rfl (fun _ h => h) rfl rfl ?_
              refine WO_pure tbok 6 [(1, .int .i64 p1), (2, p2v), (3, .pointer (some ⟨b2, 0, none⟩)), (6, .pointer (some ⟨b3, 0, none⟩)), (7, .slice a5 ((y_1).length) c6), (8, .int .i64 s_3), (10, .int .i64 (Int.tmod s_3 p0_3)), (11, .int .i64 (w64 (Int.tdiv s_3 p0_3))), (12, .int .i64 s_13), (13, .int .i64 s_16), (20, .slice a_p0_5 p0_5.length c_p0_5), (21, .int .i64 (p0_5.length : Int)), (22, .int .i64 s_3), (68, .bool (decide (s_16 ≤ (if (w64 ((Int.tmod s_3 p0_3) + p1)) < (w64 (p0_3 - 1)) then (w64 ((Int.tmod s_3 p0_3) + p1)) else (w64 (p0_3 - 1))))))] rfl ⟨rfl, rfl, rfl, rfl, rfl, rfl, rfl, rfl, rfl, rfl, rfl, rfl, rfl, rfl, trivial⟩ ?_
              refine WO_end ?_
              refine WK_cond (b := decide (s_16 ≤ (if (w64 ((Int.tmod s_3 p0_3) + p1)) < (w64 (p0_3 - 1)) then (w64 ((Int.tmod s_3 p0_3) + p1)) else (w64 (p0_3 - 1))))) rfl (fun hb71 => ?_) (fun hb71 => ?_)
              · have hm65 := ifT hb71 hm65
                refine WK_skip ?_
                refine WK_seq ?_
                refine WK_block ?_
                refine WK_seq ?_
                refine WK_region ?_
                refine WO_pure tbok 1 [(1, .int .i64 p1), (2, p2v), (3, .pointer (some ⟨b2, 0, none⟩)), (6, .pointer (some ⟨b3, 0, none⟩)), (7, .slice a5 ((y_1).length) c6), (8, .int .i64 s_3), (10, .int .i64 (Int.tmod s_3 p0_3)), (11, .int .i64 (w64 (Int.tdiv s_3 p0_3))), (12, .int .i64 s_13), (13, .int .i64 s_16), (20, .slice a_p0_5 p0_5.length c_p0_5), (21, .int .i64 (p0_5.length : Int)), (22, .int .i64 s_3), (71, .pointer (some ⟨b2, 5, none⟩))] rfl ⟨rfl, rfl, rfl, rfl, rfl, rfl, rfl, rfl, rfl, rfl, rfl, rfl, rfl, rfl, trivial⟩ ?_
                refine WO_loadB tbok 0 rfl rfl rfl rfl (fun _ h => h) rfl rfl ?_
                refine WO_pure tbok 2 [(1, .int .i64 p1), (2, p2v), (3, .pointer (some ⟨b2, 0, none⟩)), (6, .pointer (some ⟨b3, 0, none⟩)), (7, .slice a5 ((y_1).length) c6), (8, .int .i64 s_3), (10, .int .i64 (Int.tmod s_3 p0_3)), (11, .int .i64 (w64 (Int.tdiv s_3 p0_3))), (12, .int .i64 s_13), (13, .int .i64 s_16), (20, .slice a_p0_5 p0_5.length c_p0_5), (21, .int .i64 (p0_5.length : Int)), (22, .int .i64 s_3), (72, .slice a_p0_5 p0_5.length c_p0_5), (73, .int .i64 s_13), (74, .pointer (some ⟨b2, 3, none⟩))] rfl ⟨rfl, rfl, rfl, rfl, rfl, rfl, rfl, rfl, rfl, rfl, rfl, rfl, rfl, rfl, rfl, rfl, trivial⟩ ?_
                refine WO_loadB tbok 0 rfl rfl rfl rfl (fun _ h => h) rfl rfl ?_
                refine WO_pure tbok 3 [(1, .int .i64 p1), (2, p2v), (3, .pointer (some ⟨b2, 0, none⟩)), (6, .pointer (some ⟨b3, 0, none⟩)), (7, .slice a5 ((y_1).length) c6), (8, .int .i64 s_3), (10, .int .i64 (Int.tmod s_3 p0_3)), (11, .int .i64 (w64 (Int.tdiv s_3 p0_3))), (12, .int .i64 s_13), (13, .int .i64 s_16), (20, .slice a_p0_5 p0_5.length c_p0_5), (21, .int .i64 (p0_5.length : Int)), (22, .int .i64 s_3), (72, .slice a_p0_5 p0_5.length c_p0_5), (78, .int .i64 (w64 ((w64 (s_13 * p0_3)) + s_16)))] rfl ⟨rfl, rfl, rfl, rfl, rfl, rfl, rfl, rfl, rfl, rfl, rfl, rfl, rfl, rfl, rfl, trivial⟩ ?_
                obtain ⟨v_18, hy72, hm65⟩ := bind_some hm65
                obtain ⟨hc73, hy72⟩ := ix_some hy72
                refine WO_index tbok rfl rfl rfl rfl rfl rfl rfl rfl (SlR.addr h_p0_5) hc73 ?_
                refine WO_loadE tbok rfl rfl rfl rfl (fun _ h => St.sat h) h_p0_5 hy72 rfl ?_
                refine WO_pure tbok 1 [(1, .int .i64 p1), (2, p2v), (3, .pointer (some ⟨b2, 0, none⟩)), (6, .pointer (some ⟨b3, 0, none⟩)), (7, .slice a5 ((y_1).length) c6), (8, .int .i64 s_3), (10, .int .i64 (Int.tmod s_3 p0_3)), (11, .int .i64 (w64 (Int.tdiv s_3 p0_3))), (12, .int .i64 s_13), (13, .int .i64 s_16), (14, .int .i64 v_18), (20, .slice a_p0_5 p0_5.length c_p0_5), (21, .int .i64 (p0_5.length : Int)), (22, .int .i64 s_3)] rfl ⟨rfl, rfl, rfl, rfl, rfl, rfl, rfl, rfl, rfl, rfl, rfl, rfl, rfl, rfl, trivial⟩ ?_
                refine WO_end ?_
                refine WK_seq ?_
                refine WK_region ?_
                refine WO_pure tbok 2 [(1, .int .i64 p1), (2, p2v), (3, .pointer (some ⟨b2, 0, none⟩)), (6, .pointer (some ⟨b3, 0, none⟩)), (7, .slice a5 ((y_1).length) c6), (8, .int .i64 s_3), (10, .int .i64 (Int.tmod s_3 p0_3)), (11, .int .i64 (w64 (Int.tdiv s_3 p0_3))), (12, .int .i64 s_13), (13, .int .i64 s_16), (14, .int .i64 v_18), (20, .slice a_p0_5 p0_5.length c_p0_5), (21, .int .i64 (p0_5.length : Int)), (22, .int .i64 s_3), (82, .bool (v_18 != (-2147483648)))] rfl ⟨rfl, rfl, rfl, rfl, rfl, rfl, rfl, rfl, rfl, rfl, rfl, rfl, rfl, rfl, rfl, trivial⟩ ?_
                refine WO_end ?_
                obtain ⟨l_19, hx76, hm65⟩ := bind_some hm65
                refine WK_join (β := List Ent) (fun p => OwnE 3 1 (I1 .i64) (.slice a5 ((y_1).length) c6) l_19 p) (fun p => [(1, .int .i64 p1), (2, p2v), (3, .pointer (some ⟨b2, 0, none⟩)), (6, .pointer (some ⟨b3, 0, none⟩)), (7, .slice a5 ((y_1).length) c6), (8, .int .i64 s_3), (10, .int .i64 (Int.tmod s_3 p0_3)), (11, .int .i64 (w64 (Int.tdiv s_3 p0_3))), (12, .int .i64 s_13), (13, .int .i64 s_16), (20, .slice a_p0_5 p0_5.length c_p0_5), (21, .int .i64 (p0_5.length : Int)), (22, .int .i64 s_3)]) (fun p => St w0 m m [[⟨b2, 25, [.int .i64 p0_0, .int .i64 p0_1, .int .i64 p0_2, .int .i64 p0_3, .int .i64 p0_4, .slice a_p0_5 p0_5.length c_p0_5]⟩], [⟨b3, 25, [.int .i64 0, .int .i64 0, .int .i64 0, .int .i64 0, .int .i64 0, .slice none 0 0]⟩], p]) ?_ (fun hk77 => ?_)
                · rintro L75 hL75
                  refine WK.sub (e' := [(1, .int .i64 p1), (2, p2v), (3, .pointer (some ⟨b2, 0, none⟩)), (6, .pointer (some ⟨b3, 0, none⟩)), (7, .slice a5 ((y_1).length) c6), (8, .int .i64 s_3), (10, .int .i64 (Int.tmod s_3 p0_3)), (11, .int .i64 (w64 (Int.tdiv s_3 p0_3))), (12, .int .i64 s_13), (13, .int .i64 s_16), (20, .slice a_p0_5 p0_5.length c_p0_5), (21, .int .i64 (p0_5.length : Int)), (22, .int .i64 s_3)]) ⟨rfl, rfl, rfl, rfl, rfl, rfl, rfl, rfl, rfl, rfl, rfl, rfl, rfl, trivial⟩ (WK.cls (C' := St w0 m m [[⟨b2, 25, [.int .i64 p0_0, .int .i64 p0_1, .int .i64 p0_2, .int .i64 p0_3, .int .i64 p0_4, .slice a_p0_5 p0_5.length c_p0_5]⟩], [⟨b3, 25, [.int .i64 0, .int .i64 0, .int .i64 0, .int .i64 0, .int .i64 0, .slice none 0 0]⟩], L75]) (fun _ h => h) ?_)
                  refine WK_blk ?_
                  refine WK_region ?_
                  refine WO_pure tbok 3 [(1, .int .i64 p1), (2, p2v), (3, .pointer (some ⟨b2, 0, none⟩)), (6, .pointer (some ⟨b3, 0, none⟩)), (7, .slice a5 ((y_1).length) c6), (8, .int .i64 s_3), (10, .int .i64 (Int.tmod s_3 p0_3)), (11, .int .i64 (w64 (Int.tdiv s_3 p0_3))), (12, .int .i64 s_13), (13, .int .i64 (w64 (s_16 + 1))), (20, .slice a_p0_5 p0_5.length c_p0_5), (21, .int .i64 (p0_5.length : Int)), (22, .int .i64 s_3)] rfl ⟨rfl, rfl, rfl, rfl, rfl, rfl, rfl, rfl, rfl, rfl, rfl, rfl, rfl, trivial⟩ ?_
                  refine WO_end ?_
                  cases hm65
                  refine WK.sub ?_ (WK.cls (fun _ h => h) (hn68 _ L75 rfl hL75))
                  exact ⟨rfl, rfl, rfl, rfl, rfl, rfl, rfl, rfl, rfl, rfl, rfl, rfl, rfl, trivial⟩
                · refine WK_cond (b := v_18 != (-2147483648)) rfl (fun hb78 => ?_) (fun hb78 => ?_)
                  · have hx76 := ifT hb78 hx76
                    refine WK_region ?_
                    refine WO_pure tbok 5 [(1, .int .i64 p1), (2, p2v), (3, .pointer (some ⟨b2, 0, none⟩)), (6, .pointer (some ⟨b3, 0, none⟩)), (7, .slice a5 ((y_1).length) c6), (8, .int .i64 s_3), (10, .int .i64 (Int.tmod s_3 p0_3)), (11, .int .i64 (w64 (Int.tdiv s_3 p0_3))), (12, .int .i64 s_13), (13, .int .i64 s_16), (14, .int .i64 v_18), (20, .slice a_p0_5 p0_5.length c_p0_5), (21, .int .i64 (p0_5.length : Int)), (22, .int .i64 s_3), (83, .slice a5 ((y_1).length) c6), (84, .int .i64 s_3), (85, p2v), (86, .slice a5 ((y_1).length) c6), (87, .int .i64 s_3)] rfl ⟨rfl, rfl, rfl, rfl, rfl, rfl, rfl, rfl, rfl, rfl, rfl, rfl, rfl, rfl, rfl, rfl, rfl, rfl, rfl, trivial⟩ ?_
                    obtain ⟨v_20, hy79, hx76⟩ := bind_some hx76
                    obtain ⟨hc80, hy79⟩ := ix_some hy79
                    refine WO_index tbok rfl rfl rfl rfl rfl rfl rfl rfl (OwnE.addr hL59) (by simpa using hc80) ?_
                    refine WO_loadO (E := (I1 .i64)) tbok (fun _ => rfl) 2 rfl rfl rfl rfl (fun _ h => h) hL59 rfl hy79 rfl ?_
                    refine WO_pure tbok 1 [(1, .int .i64 p1), (2, p2v), (3, .pointer (some ⟨b2, 0, none⟩)), (6, .pointer (some ⟨b3, 0, none⟩)), (7, .slice a5 ((y_1).length) c6), (8, .int .i64 s_3), (10, .int .i64 (Int.tmod s_3 p0_3)), (11, .int .i64 (w64 (Int.tdiv s_3 p0_3))), (12, .int .i64 s_13), (13, .int .i64 s_16), (20, .slice a_p0_5 p0_5.length c_p0_5), (21, .int .i64 (p0_5.length : Int)), (22, .int .i64 s_3), (83, .slice a5 ((y_1).length) c6), (84, .int .i64 s_3), (85, p2v), (89, .int .i64 v_20), (90, .int .i64 v_18)] rfl ⟨rfl, rfl, rfl, rfl, rfl, rfl, rfl, rfl, rfl, rfl, rfl, rfl, rfl, rfl, rfl, rfl, rfl, rfl, trivial⟩ ?_
                    obtain ⟨y_21, hc81, hx76⟩ := bind_some hx76
                    obtain ⟨f0, first0, cap0, hf0, hcal0, hsp0⟩ := hp2 _ (Le.refl _) v_20 v_18 _ hc81
                    refine WO_call0 (.int .i64 y_21) rfl rfl trivial rfl rfl rfl rfl St_closed ⟨f0, first0, cap0, hf0, hcal0, fun w hw => ⟨m, hw.sat, hsp0⟩⟩ ?_
                    obtain ⟨hc82, hx76⟩ := chk_some hx76
                    refine WO_index tbok rfl rfl rfl rfl rfl rfl rfl rfl (OwnE.addr hL59) (by simpa using hc82) ?_
                    refine WO_storeO (E := (I1 .i64)) tbok (fun _ => rfl) 2 y_21 rfl rfl rfl rfl rfl hL59 rfl (by simpa using idx_lt hc82) rfl rfl rfl rfl (fun L83 hL83 => ?_)
                    refine WO.cls (C' := St w0 m m [[⟨b2, 25, [.int .i64 p0_0, .int .i64 p0_1, .int .i64 p0_2, .int .i64 p0_3, .int .i64 p0_4, .slice a_p0_5 p0_5.length c_p0_5]⟩], [⟨b3, 25, [.int .i64 0, .int .i64 0, .int .i64 0, .int .i64 0, .int .i64 0, .slice none 0 0]⟩], L83]) (fun _ h => h) ?_
                    refine WO_end ?_
                    cases hx76
                    refine WK.sub ?_ (WK.cls (fun _ h => h) (hk77 L83 hL83))
                    exact ⟨rfl, rfl, rfl, rfl, rfl, rfl, rfl, rfl, rfl, rfl, rfl, rfl, rfl, trivial⟩
                  · have hx76 := ifF hb78 hx76
                    refine WK_skip ?_
                    cases hx76
                    refine WK.sub ?_ (WK.cls (fun _ h => h) (hk77 L59 hL59))
                    exact ⟨rfl, rfl, rfl, rfl, rfl, rfl, rfl, rfl, rfl, rfl, rfl, rfl, rfl, trivial⟩
              · have hm65 := ifF hb71 hm65
                refine WK_exit rfl ?_
                cases hm65
                refine WK.sub ?_ (WK.cls (fun _ h => h) (hk64 (l_15, L59) ⟨(hd69 _ rfl), hL59⟩))
                exact ⟨rfl, rfl, rfl, rfl, rfl, rfl, rfl, rfl, rfl, rfl, rfl, rfl, trivial⟩
          · have hm51 := ifF hb57 hm51
            refine WK_exit rfl ?_
            cases hm51
            refine WK.sub ?_ (WK.cls (fun _ h => h) (hk50 (l_12, L45) ⟨(hd55 _ rfl), hL45⟩))
            exact ⟨rfl, rfl, rfl, rfl, rfl, rfl, rfl, rfl, trivial⟩
    · have hm17 := ifF hb35 hm17
      refine WK_exit rfl ?_
      cases hm17
      refine WK.sub ?_ (WK.cls (fun _ h => h) (hk16 (l_2, L11) ⟨(hd21 _ rfl), hL11⟩))
      exact ⟨rfl, rfl, rfl, trivial⟩
theorem terrain_least_walk {m : Mu} {p0 : Int} {p1 : Int}   {r : Int} (hm : terrain_least p0 p1 = some r) :
    Go.E.Spec Try.prog 53 [.int .i64 p0, .int .i64 p1] m (fun v _ _ => v = .int .i64 r) := by
  refine Spec_enter Try.func53 rfl rfl rfl (fun w0 => ?_)
  refine WK.sub (e' := [(0, .int .i64 p0), (1, .int .i64 p1)]) ⟨rfl, rfl, trivial⟩ ?_
  refine WK.sub (e' := [(0, .int .i64 p0), (1, .int .i64 p1)]) ⟨rfl, rfl, trivial⟩ ?_
  unfold terrain_least at hm
  refine WK_seq ?_
  refine WK_region ?_
  refine WO_pure tbok 1 [(0, .int .i64 p0), (1, .int .i64 p1), (4, .int .i64 0)] rfl ⟨rfl, rfl, rfl, trivial⟩ ?_
  refine WO_end ?_
  refine WK_seq ?_
  refine WK_region ?_
  refine WO_pure tbok 4 [(4, .int .i64 (if p1 < p0 then p1 else p0))] rfl ⟨rfl, trivial⟩ ?_
  refine WO_end ?_
  cases hm
  exact WK_ret (ret_out (L := []) (RLc_tmp rfl RLc_nil) (List.nil_sublist _) rfl)
theorem terrain_greatest_walk {m : Mu} {p0 : Int} {p1 : Int}   {r : Int} (hm : terrain_greatest p0 p1 = some r) :
    Go.E.Spec Try.prog 54 [.int .i64 p0, .int .i64 p1] m (fun v _ _ => v = .int .i64 r) := by
  refine Spec_enter Try.func54 rfl rfl rfl (fun w0 => ?_)
  refine WK.sub (e' := [(0, .int .i64 p0), (1, .int .i64 p1)]) ⟨rfl, rfl, trivial⟩ ?_
  refine WK.sub (e' := [(0, .int .i64 p0), (1, .int .i64 p1)]) ⟨rfl, rfl, trivial⟩ ?_
  unfold terrain_greatest at hm
  refine WK_seq ?_
  refine WK_region ?_
  refine WO_pure tbok 1 [(0, .int .i64 p0), (1, .int .i64 p1), (4, .int .i64 0)] rfl ⟨rfl, rfl, rfl, trivial⟩ ?_
  refine WO_end ?_
  refine WK_seq ?_
  refine WK_region ?_
  refine WO_pure tbok 4 [(4, .int .i64 (if p0 < p1 then p1 else p0))] rfl ⟨rfl, trivial⟩ ?_
  refine WO_end ?_
  cases hm
  exact WK_ret (ret_out (L := []) (RLc_tmp rfl RLc_nil) (List.nil_sublist _) rfl)
def terrain_opened_Q (r : Int × Int × Int × Int × Int × List Int) : Value → Mu → List Ent → Prop := fun v m L => ∃ (a0 : Option Addr) (q0 c0 : Nat), v = .agg #[.int .i64 r.1, .int .i64 r.2.1, .int .i64 r.2.2.1, .int .i64 r.2.2.2.1, .int .i64 r.2.2.2.2.1, .slice a0 q0 c0] ∧ SlR (FE (I1 .i64)) 1 m (.slice a0 q0 c0) r.2.2.2.2.2
theorem terrain_opened_walk {m : Mu} {p0_0 : Int} {p0_1 : Int} {p0_2 : Int} {p0_3 : Int} {p0_4 : Int} {p0_5 : List Int} {p1 : Int} {a_p0_5 : Option Addr} {q_p0_5 c_p0_5 : Nat} (h_p0_5 : SlR (FE (I1 .i64)) 1 m (.slice a_p0_5 q_p0_5 c_p0_5) p0_5) {r : Int × Int × Int × Int × Int × List Int} (hm : terrain_opened p0_0 p0_1 p0_2 p0_3 p0_4 p0_5 p1 = some r) :
    Go.E.Spec Try.prog 50 [.agg #[.int .i64 p0_0, .int .i64 p0_1, .int .i64 p0_2, .int .i64 p0_3, .int .i64 p0_4, .slice a_p0_5 q_p0_5 c_p0_5], .int .i64 p1] m (terrain_opened_Q r) := by
  refine Spec_enter Try.func50 rfl rfl rfl (fun w0 => ?_)
  refine WK.sub (e' := [(0, .agg #[.int .i64 p0_0, .int .i64 p0_1, .int .i64 p0_2, .int .i64 p0_3, .int .i64 p0_4, .slice a_p0_5 q_p0_5 c_p0_5]), (1, .int .i64 p1)]) ⟨rfl, rfl, trivial⟩ ?_
  obtain rfl := SlR.qlen h_p0_5
  refine WK.sub (e' := [(0, .agg #[.int .i64 p0_0, .int .i64 p0_1, .int .i64 p0_2, .int .i64 p0_3, .int .i64 p0_4, .slice a_p0_5 p0_5.length c_p0_5]), (1, .int .i64 p1)]) ⟨rfl, rfl, trivial⟩ ?_
  unfold terrain_opened at hm
  refine WK_seq ?_
  refine WK_region ?_
  refine WO_box [.int .i64 p0_0, .int .i64 p0_1, .int .i64 p0_2, .int .i64 p0_3, .int .i64 p0_4, .slice a_p0_5 p0_5.length c_p0_5] rfl rfl trivial rfl rfl rfl (fun b2 => ?_)
  refine WO.cls (C' := St w0 m m [[⟨b2, 25, [.int .i64 p0_0, .int .i64 p0_1, .int .i64 p0_2, .int .i64 p0_3, .int .i64 p0_4, .slice a_p0_5 p0_5.length c_p0_5]⟩]]) (fun _ h => h) ?_
  refine WO_alloc tbok [.int .i64 0, .int .i64 0, .int .i64 0, .int .i64 0, .int .i64 0, .slice none 0 0] rfl rfl trivial rfl rfl rfl rfl (fun b3 => ?_)
  refine WO.cls (C' := St w0 m m [[⟨b2, 25, [.int .i64 p0_0, .int .i64 p0_1, .int .i64 p0_2, .int .i64 p0_3, .int .i64 p0_4, .slice a_p0_5 p0_5.length c_p0_5]⟩], [⟨b3, 25, [.int .i64 0, .int .i64 0, .int .i64 0, .int .i64 0, .int .i64 0, .slice none 0 0]⟩]]) (fun _ h => h) ?_
  refine WO_end ?_
  refine WK_seq ?_
  refine WK_region ?_
  refine WO_loadB tbok 0 rfl rfl rfl rfl (fun _ h => h) rfl rfl ?_
  refine WO_pure tbok 1 [(1, .int .i64 p1), (4, .pointer (some ⟨b3, 0, none⟩)), (5, .agg #[.int .i64 p0_0, .int .i64 p0_1, .int .i64 p0_2, .int .i64 p0_3, .int .i64 p0_4, .slice a_p0_5 p0_5.length c_p0_5]), (6, .int .i64 p1)] rfl ⟨rfl, rfl, rfl, rfl, trivial⟩ ?_
  obtain ⟨⟨y_3, y_4, y_5, y_6, y_7, y_8⟩, hc4, hm⟩ := bind_some hm
  refine WO_call2 (terrain_filtered_Q (y_3, y_4, y_5, y_6, y_7, y_8)) rfl rfl trivial rfl rfl rfl rfl ⟨52, #[], #[], rfl, callable_52, terrain_filtered_walk h_p0_5 (fun m1 hm1 z_1 z_2 _ h => specV_cap callable_53 (terrain_least_walk h)) hc4⟩ (fun v9 m10 L8 hle11 hq => ?_)
  obtain ⟨a5, qa5, c6, rfl, h12⟩ := hq
  obtain rfl := SlR.qlen h12
  refine WO.cls (C' := St w0 m m10 [[⟨b2, 25, [.int .i64 p0_0, .int .i64 p0_1, .int .i64 p0_2, .int .i64 p0_3, .int .i64 p0_4, .slice a_p0_5 p0_5.length c_p0_5]⟩], [⟨b3, 25, [.int .i64 0, .int .i64 0, .int .i64 0, .int .i64 0, .int .i64 0, .slice none 0 0]⟩], L8]) (fun _ h => h.sub (by simp)) ?_
  refine WO_pure tbok 1 [(4, .pointer (some ⟨b3, 0, none⟩)), (7, .agg #[.int .i64 y_3, .int .i64 y_4, .int .i64 y_5, .int .i64 y_6, .int .i64 y_7, .slice a5 ((y_8).length) c6]), (8, .int .i64 p1)] rfl ⟨rfl, rfl, rfl, trivial⟩ ?_
  obtain ⟨⟨y_11, y_12, y_13, y_14, y_15, y_16⟩, hc13, hm⟩ := bind_some hm
  refine WO_call2 (terrain_filtered_Q (y_11, y_12, y_13, y_14, y_15, y_16)) rfl rfl trivial rfl rfl rfl rfl ⟨52, #[], #[], rfl, callable_52, terrain_filtered_walk h12 (fun m1 hm1 z_9 z_10 _ h => specV_cap callable_54 (terrain_greatest_walk h)) hc13⟩ (fun v18 m19 L17 hle20 hq => ?_)
  obtain ⟨a14, qa14, c15, rfl, h21⟩ := hq
  obtain rfl := SlR.qlen h21
  refine WO.cls (C' := St w0 m m19 [[⟨b2, 25, [.int .i64 p0_0, .int .i64 p0_1, .int .i64 p0_2, .int .i64 p0_3, .int .i64 p0_4, .slice a_p0_5 p0_5.length c_p0_5]⟩], [⟨b3, 25, [.int .i64 0, .int .i64 0, .int .i64 0, .int .i64 0, .int .i64 0, .slice none 0 0]⟩], L8, L17]) (fun _ h => h.sub (by simp)) ?_
  refine WO_storeB tbok 1 [.int .i64 y_11, .int .i64 y_12, .int .i64 y_13, .int .i64 y_14, .int .i64 y_15, .slice a14 ((y_16).length) c15] rfl rfl rfl rfl rfl rfl rfl ?_
  refine WO.cls (C' := St w0 m m19 [[⟨b2, 25, [.int .i64 p0_0, .int .i64 p0_1, .int .i64 p0_2, .int .i64 p0_3, .int .i64 p0_4, .slice a_p0_5 p0_5.length c_p0_5]⟩], [⟨b3, 25, [.int .i64 y_11, .int .i64 y_12, .int .i64 y_13, .int .i64 y_14, .int .i64 y_15, .slice a14 ((y_16).length) c15]⟩], L8, L17]) (fun _ h => h) ?_
  refine WO_end ?_
  cases hm
  exact WK_ret (ret_out (L := []) (RLc_cell tbok 1 rfl rfl rfl RLc_nil) (List.nil_sublist _) ⟨a14, _, c15, rfl, h21⟩)
def terrain_Open_Q (r : Int × Int × Int × Int × Int × List Int × Int) : Value → Mu → List Ent → Prop := fun v m L => ∃ (a0 : Option Addr) (q0 c0 : Nat), v = .tuple #[.agg #[.int .i64 r.1, .int .i64 r.2.1, .int .i64 r.2.2.1, .int .i64 r.2.2.2.1, .int .i64 r.2.2.2.2.1, .slice a0 q0 c0], .int .i64 r.2.2.2.2.2.2] ∧ SlR (FE (I1 .i64)) 1 m (.slice a0 q0 c0) r.2.2.2.2.2.1
theorem terrain_Open_walk {m : Mu} {p0_0 : Int} {p0_1 : Int} {p0_2 : Int} {p0_3 : Int} {p0_4 : Int} {p0_5 : List Int} {p1 : Int} {a_p0_5 : Option Addr} {q_p0_5 c_p0_5 : Nat} (h_p0_5 : SlR (FE (I1 .i64)) 1 m (.slice a_p0_5 q_p0_5 c_p0_5) p0_5) {r : Int × Int × Int × Int × Int × List Int × Int} (hm : terrain_Open p0_0 p0_1 p0_2 p0_3 p0_4 p0_5 p1 = some r) :
    Go.E.Spec Try.prog 26 [.agg #[.int .i64 p0_0, .int .i64 p0_1, .int .i64 p0_2, .int .i64 p0_3, .int .i64 p0_4, .slice a_p0_5 q_p0_5 c_p0_5], .int .i64 p1] m (terrain_Open_Q r) := by
  refine Spec_enter Try.func26 rfl rfl rfl (fun w0 => ?_)
  refine WK.sub (e' := [(0, .agg #[.int .i64 p0_0, .int .i64 p0_1, .int .i64 p0_2, .int .i64 p0_3, .int .i64 p0_4, .slice a_p0_5 q_p0_5 c_p0_5]), (1, .int .i64 p1)]) ⟨rfl, rfl, trivial⟩ ?_
  obtain rfl := SlR.qlen h_p0_5
  refine WK.sub (e' := [(0, .agg #[.int .i64 p0_0, .int .i64 p0_1, .int .i64 p0_2, .int .i64 p0_3, .int .i64 p0_4, .slice a_p0_5 p0_5.length c_p0_5]), (1, .int .i64 p1)]) ⟨rfl, rfl, trivial⟩ ?_
  unfold terrain_Open at hm
  refine WK_seq ?_
  refine WK_region ?_
  refine WO_box [.int .i64 p0_0, .int .i64 p0_1, .int .i64 p0_2, .int .i64 p0_3, .int .i64 p0_4, .slice a_p0_5 p0_5.length c_p0_5] rfl rfl trivial rfl rfl rfl (fun b2 => ?_)
  refine WO.cls (C' := St w0 m m [[⟨b2, 25, [.int .i64 p0_0, .int .i64 p0_1, .int .i64 p0_2, .int .i64 p0_3, .int .i64 p0_4, .slice a_p0_5 p0_5.length c_p0_5]⟩]]) (fun _ h => h) ?_
  refine WO_alloc tbok [.int .i64 0, .int .i64 0, .int .i64 0, .int .i64 0, .int .i64 0, .slice none 0 0] rfl rfl trivial rfl rfl rfl rfl (fun b3 => ?_)
  refine WO.cls (C' := St w0 m m [[⟨b2, 25, [.int .i64 p0_0, .int .i64 p0_1, .int .i64 p0_2, .int .i64 p0_3, .int .i64 p0_4, .slice a_p0_5 p0_5.length c_p0_5]⟩], [⟨b3, 25, [.int .i64 0, .int .i64 0, .int .i64 0, .int .i64 0, .int .i64 0, .slice none 0 0]⟩]]) (fun _ h => h) ?_
  refine WO_pure tbok 1 [(1, .int .i64 p1), (2, .pointer (some ⟨b2, 0, none⟩)), (4, .pointer (some ⟨b3, 0, none⟩)), (5, .int .i64 0)] rfl ⟨rfl, rfl, rfl, rfl, trivial⟩ ?_
  refine WO_end ?_
  refine WK_seq ?_
  refine WK_seq ?_
  refine WK_region ?_
  refine WO_loadB tbok 0 rfl rfl rfl rfl (fun _ h => h) rfl rfl ?_
  refine WO_pure tbok 1 [(1, .int .i64 p1), (2, .pointer (some ⟨b2, 0, none⟩)), (4, .pointer (some ⟨b3, 0, none⟩)), (5, .int .i64 0), (7, .agg #[.int .i64 p0_0, .int .i64 p0_1, .int .i64 p0_2, .int .i64 p0_3, .int .i64 p0_4, .slice a_p0_5 p0_5.length c_p0_5]), (8, .int .i64 p1)] rfl ⟨rfl, rfl, rfl, rfl, rfl, rfl, trivial⟩ ?_
  obtain ⟨y_1, hc4, hm⟩ := bind_some hm
  refine WO_call0 (.int .i64 y_1) rfl rfl trivial rfl rfl rfl rfl St_closed ⟨51, #[], #[], rfl, callable_51, fun w hw => ⟨_, hw.sat, terrain_checked_walk h_p0_5 hc4⟩⟩ ?_
  refine WO_pure tbok 1 [(1, .int .i64 p1), (2, .pointer (some ⟨b2, 0, none⟩)), (4, .pointer (some ⟨b3, 0, none⟩)), (5, .int .i64 0), (6, .int .i64 y_1)] rfl ⟨rfl, rfl, rfl, rfl, rfl, trivial⟩ ?_
  refine WO_end ?_
  refine WK_seq ?_
  refine WK_region ?_
  refine WO_pure tbok 2 [(1, .int .i64 p1), (2, .pointer (some ⟨b2, 0, none⟩)), (4, .pointer (some ⟨b3, 0, none⟩)), (5, .int .i64 0), (6, .int .i64 y_1), (11, .bool (y_1 != 0))] rfl ⟨rfl, rfl, rfl, rfl, rfl, rfl, trivial⟩ ?_
  refine WO_end ?_
  refine WK_cond (b := y_1 != 0) rfl (fun hb5 => ?_) (fun hb5 => ?_)
  · have hm := ifT hb5 hm
    refine WK_seq ?_
    refine WK_region ?_
    refine WO_pure tbok 2 [(1, .int .i64 p1), (2, .pointer (some ⟨b2, 0, none⟩)), (4, .pointer (some ⟨b3, 0, none⟩)), (5, .int .i64 0), (12, .agg #[.int .i64 0, .int .i64 0, .int .i64 0, .int .i64 0, .int .i64 0, .slice none 0 0]), (13, .int .i64 y_1)] rfl ⟨rfl, rfl, rfl, rfl, rfl, rfl, trivial⟩ ?_
    refine WO_storeB tbok 1 [.int .i64 0, .int .i64 0, .int .i64 0, .int .i64 0, .int .i64 0, .slice none 0 0] rfl rfl rfl rfl rfl rfl rfl ?_
    refine WO.cls (C' := St w0 m m [[⟨b2, 25, [.int .i64 p0_0, .int .i64 p0_1, .int .i64 p0_2, .int .i64 p0_3, .int .i64 p0_4, .slice a_p0_5 p0_5.length c_p0_5]⟩], [⟨b3, 25, [.int .i64 0, .int .i64 0, .int .i64 0, .int .i64 0, .int .i64 0, .slice none 0 0]⟩]]) (fun _ h => h) ?_
    refine WO_pure tbok 1 [(1, .int .i64 p1), (2, .pointer (some ⟨b2, 0, none⟩)), (4, .pointer (some ⟨b3, 0, none⟩)), (5, .int .i64 y_1)] rfl ⟨rfl, rfl, rfl, rfl, trivial⟩ ?_
    refine WO_end ?_
    cases hm
    exact WK_ret (ret_out (L := []) (RLc_cell tbok 1 rfl rfl rfl (RLc_tmp rfl RLc_nil)) (List.nil_sublist _) ⟨none, 0, 0, rfl, SlR_nil⟩)
  · have hm := ifF hb5 hm
    refine WK_skip ?_
    refine WK_seq ?_
    refine WK_region ?_
    refine WO_loadB tbok 0 rfl rfl rfl rfl (fun _ h => h) rfl rfl ?_
    refine WO_pure tbok 1 [(4, .pointer (some ⟨b3, 0, none⟩)), (5, .int .i64 0), (14, .agg #[.int .i64 p0_0, .int .i64 p0_1, .int .i64 p0_2, .int .i64 p0_3, .int .i64 p0_4, .slice a_p0_5 p0_5.length c_p0_5]), (15, .int .i64 p1)] rfl ⟨rfl, rfl, rfl, rfl, trivial⟩ ?_
    obtain ⟨⟨y_2, y_3, y_4, y_5, y_6, y_7⟩, hc6, hm⟩ := bind_some hm
    refine WO_call2 (terrain_opened_Q (y_2, y_3, y_4, y_5, y_6, y_7)) rfl rfl trivial rfl rfl rfl rfl ⟨50, #[], #[], rfl, callable_50, terrain_opened_walk h_p0_5 hc6⟩ (fun v11 m12 L10 hle13 hq => ?_)
    obtain ⟨a7, qa7, c8, rfl, h14⟩ := hq
    obtain rfl := SlR.qlen h14
    refine WO.cls (C' := St w0 m m12 [[⟨b2, 25, [.int .i64 p0_0, .int .i64 p0_1, .int .i64 p0_2, .int .i64 p0_3, .int .i64 p0_4, .slice a_p0_5 p0_5.length c_p0_5]⟩], [⟨b3, 25, [.int .i64 0, .int .i64 0, .int .i64 0, .int .i64 0, .int .i64 0, .slice none 0 0]⟩], L10]) (fun _ h => h.sub (by simp)) ?_
    refine WO_storeB tbok 1 [.int .i64 y_2, .int .i64 y_3, .int .i64 y_4, .int .i64 y_5, .int .i64 y_6, .slice a7 ((y_7).length) c8] rfl rfl rfl rfl rfl rfl rfl ?_
    refine WO.cls (C' := St w0 m m12 [[⟨b2, 25, [.int .i64 p0_0, .int .i64 p0_1, .int .i64 p0_2, .int .i64 p0_3, .int .i64 p0_4, .slice a_p0_5 p0_5.length c_p0_5]⟩], [⟨b3, 25, [.int .i64 y_2, .int .i64 y_3, .int .i64 y_4, .int .i64 y_5, .int .i64 y_6, .slice a7 ((y_7).length) c8]⟩], L10]) (fun _ h => h) ?_
    refine WO_pure tbok 1 [(4, .pointer (some ⟨b3, 0, none⟩)), (5, .int .i64 0)] rfl ⟨rfl, rfl, trivial⟩ ?_
    refine WO_end ?_
    cases hm
    exact WK_ret (ret_out (L := []) (RLc_cell tbok 1 rfl rfl rfl (RLc_tmp rfl RLc_nil)) (List.nil_sublist _) ⟨a7, _, c8, rfl, h14⟩)
end Go.Proofs.Ytcaeieofjchpjaa
