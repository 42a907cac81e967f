import Derived.Test.YtbolefkhmfbnlaaTab
import Derived.Test.YtbolefkhmfbnlaaM
import Derived.Test.YtbolefkhmfbnlaaIt
import Derived.Test.YtbolefkhmfbnlaaW2
set_option linter.unusedVariables false
set_option maxRecDepth 100000
set_option maxHeartbeats 4000000
namespace Go.Proofs.Ytbolefkhmfbnlaa
open Go.E Go.RowKit
attribute [local irreducible] Go.E.WO Go.E.WK
theorem slices_IndexFunc_sdescriptor_Test_walk {m : Mu} {p0 : List (Int × Int × Int × Int × Int × Int × Int × Int)} {p1 : Int → Int → Int → Int → Int → Int → Int → Int → Option Bool} {a_p0 : Option Addr} {q_p0 c_p0 : Nat} {p1v : Value} (h_p0 : SlR (FE T8) 8 m (.slice a_p0 q_p0 c_p0) p0) (hp1 : ∀ (m1 : Mu), Le m m1 → ∀ (u1 : Int), ∀ (u2 : Int), ∀ (u3 : Int), ∀ (u4 : Int), ∀ (u5 : Int), ∀ (u6 : Int), ∀ (u7 : Int), ∀ (u8 : Int), ∀ (r : Bool), p1 u1 u2 u3 u4 u5 u6 u7 u8 = some r → SpecV Try.prog p1v [.agg #[.int .i64 u1, .int .i64 u2, .int .i64 u3, .int .i64 u4, .int .i64 u5, .int .i64 u6, .int .i64 u7, .int .i64 u8]] m1 (fun v _ _ => v = .bool r)) {r : Int} (hm : slices_IndexFunc_sdescriptor_Test p0 p1 = some r) :
    Go.E.Spec Try.prog 72 [.slice a_p0 q_p0 c_p0, p1v] m (fun v _ _ => v = .int .i64 r) := by
  refine Spec_enter Try.func72 rfl rfl rfl (fun w0 => ?_)
  refine WK.sub (e' := [(0, .slice a_p0 q_p0 c_p0), (1, p1v)]) ⟨rfl, rfl, trivial⟩ ?_
  obtain rfl := SlR.qlen h_p0
  refine WK.sub (e' := [(0, .slice a_p0 p0.length c_p0), (1, p1v)]) ⟨rfl, rfl, trivial⟩ ?_
  unfold slices_IndexFunc_sdescriptor_Test at hm
  refine WK_seq ?_
  refine WK_region ?_
  refine WO_pure tbok 1 [(0, .slice a_p0 p0.length c_p0), (1, p1v), (4, .int .i64 0)] rfl ⟨rfl, rfl, rfl, trivial⟩ ?_
  refine WO_end ?_
  refine WK_seq ?_
  refine WK_seq ?_
  refine WK_region ?_
  refine WO_pure tbok 3 [(0, .slice a_p0 p0.length c_p0), (1, p1v), (4, .int .i64 0), (7, .int .i64 (p0.length : Int)), (8, .int .i64 0)] rfl ⟨rfl, rfl, rfl, rfl, rfl, trivial⟩ ?_
  refine WO_end ?_
  obtain ⟨x1, hx2, hm⟩ := bind_some hm
  refine WK_join (β := Unit × Unit) (fun p => Sum.inr p.1 = x1) (fun p => [(4, .int .i64 0)]) (fun p => St w0 m m []) ?_ (fun hk3 => ?_)
  · rintro ⟨⟨⟩, ⟨⟩⟩ hq9
    subst hq9
    refine WK.sub (e' := [(4, .int .i64 0)]) ⟨rfl, trivial⟩ (WK.cls (C' := St w0 m m []) (fun _ h => h) ?_)
    refine WK_seq ?_
    refine WK_region ?_
    refine WO_pure tbok 1 [(4, .int .i64 (-1))] rfl ⟨rfl, trivial⟩ ?_
    refine WO_end ?_
    cases hm
    exact WK_ret (ret_out (L := []) (RLc_tmp rfl RLc_nil) (List.nil_sublist _) rfl)
  · refine WK_block ?_
    refine WK_loop (S := Int) (G := Unit) (fun s => slices_IndexFunc_sdescriptor_Test_s1 p0 p1 s) (fun s g => [(0, .slice a_p0 p0.length c_p0), (1, p1v), (4, .int .i64 0), (7, .int .i64 (p0.length : Int)), (8, .int .i64 s)]) (fun s g => St w0 m m []) (fun s g => True) FUEL 0 () x1 hx2 trivial ⟨rfl, rfl, rfl, rfl, rfl, trivial⟩ (fun _ h => h) ?_
    rintro s_1 ⟨⟩ o5 fl6 hm4 - hn7 hd8
    have hm4 : slices_IndexFunc_sdescriptor_Test_s1 p0 p1 s_1 = some o5 := hm4
    unfold slices_IndexFunc_sdescriptor_Test_s1 at hm4
    refine WK.sub (e' := [(0, .slice a_p0 p0.length c_p0), (1, p1v), (4, .int .i64 0), (7, .int .i64 (p0.length : Int)), (8, .int .i64 s_1)]) ⟨rfl, rfl, rfl, rfl, rfl, trivial⟩ (WK.cls (C' := St w0 m m []) (fun _ h => h) ?_)
    refine WK_seq ?_
    refine WK_region ?_
    refine WO_pure tbok 1 [(0, .slice a_p0 p0.length c_p0), (1, p1v), (4, .int .i64 0), (7, .int .i64 (p0.length : Int)), (8, .int .i64 s_1), (9, .bool (decide (s_1 < (p0.length : Int))))] rfl ⟨rfl, rfl, rfl, rfl, rfl, rfl, trivial⟩ ?_
    refine WO_end ?_
    refine WK_seq ?_
    refine WK_cond (b := decide (s_1 < (p0.length : Int))) rfl (fun hb10 => ?_) (fun hb10 => ?_)
    · have hm4 := ifT hb10 hm4
      refine WK_skip ?_
      refine WK_seq ?_
      refine WK_block ?_
      refine WK_seq ?_
      refine WK_region ?_
      refine WO_pure tbok 2 [(0, .slice a_p0 p0.length c_p0), (1, p1v), (4, .int .i64 0), (5, .int .i64 s_1), (7, .int .i64 (p0.length : Int)), (8, .int .i64 s_1)] rfl ⟨rfl, rfl, rfl, rfl, rfl, rfl, trivial⟩ ?_
      refine WO_end ?_
      refine WK_seq ?_
      refine WK_region ?_
      refine WO_pure tbok 3 [(0, .slice a_p0 p0.length c_p0), (1, p1v), (4, .int .i64 0), (5, .int .i64 s_1), (7, .int .i64 (p0.length : Int)), (8, .int .i64 s_1), (11, p1v), (12, .slice a_p0 p0.length c_p0), (13, .int .i64 s_1)] rfl ⟨rfl, rfl, rfl, rfl, rfl, rfl, rfl, rfl, rfl, trivial⟩ ?_
      obtain ⟨v_2, hy11, hm4⟩ := bind_some hm4
      obtain ⟨hc12, hy11⟩ := ix_some hy11
      refine WO_index tbok rfl rfl rfl rfl rfl rfl rfl rfl (SlR.addr h_p0) hc12 ?_
      refine WO_loadE tbok rfl rfl rfl rfl (fun _ h => St.sat h) h_p0 hy11 rfl ?_
      obtain ⟨y_3, hc13, hm4⟩ := bind_some hm4
      obtain ⟨f0, first0, cap0, hf0, hcal0, hsp0⟩ := hp1 _ (Le.refl _) v_2.1 v_2.2.1 v_2.2.2.1 v_2.2.2.2.1 v_2.2.2.2.2.1 v_2.2.2.2.2.2.1 v_2.2.2.2.2.2.2.1 v_2.2.2.2.2.2.2.2 _ hc13
      refine WO_call0 (.bool y_3) rfl rfl trivial rfl rfl rfl rfl St_closed ⟨f0, first0, cap0, hf0, hcal0, fun w hw => ⟨m, hw.sat, hsp0⟩⟩ ?_
      refine WO_end ?_
      refine WK_cond (b := y_3) rfl (fun hb14 => ?_) (fun hb14 => ?_)
      · have hm4 := ifT hb14 hm4
        refine WK_seq ?_
        refine WK_region ?_
        refine WO_pure tbok 2 [(0, .slice a_p0 p0.length c_p0), (1, p1v), (4, .int .i64 s_1), (7, .int .i64 (p0.length : Int)), (8, .int .i64 s_1)] rfl ⟨rfl, rfl, rfl, rfl, rfl, trivial⟩ ?_
        refine WO_end ?_
        cases hm4
        have hq := hd8 _ rfl
        subst hq
        have hm : some _ = some _ := hm
        cases hm
        exact WK_ret (ret_out (L := []) (RLc_tmp rfl RLc_nil) (List.nil_sublist _) rfl)
      · have hm4 := ifF hb14 hm4
        refine WK_skip ?_
        refine WK_blk ?_
        refine WK_region ?_
        refine WO_pure tbok 2 [(0, .slice a_p0 p0.length c_p0), (1, p1v), (4, .int .i64 0), (7, .int .i64 (p0.length : Int)), (8, .int .i64 (w64 (s_1 + 1)))] rfl ⟨rfl, rfl, rfl, rfl, rfl, trivial⟩ ?_
        refine WO_end ?_
        cases hm4
        refine WK.sub ?_ (WK.cls (fun _ h => h) (hn7 _ () rfl trivial))
        exact ⟨rfl, rfl, rfl, rfl, rfl, trivial⟩
    · have hm4 := ifF hb10 hm4
      refine WK_exit rfl ?_
      cases hm4
      refine WK.sub ?_ (WK.cls (fun _ h => h) (hk3 ((), ()) (hd8 _ rfl)))
      exact ⟨rfl, trivial⟩
theorem slices_ContainsFunc_sdescriptor_Test_walk {m : Mu} {p0 : List (Int × Int × Int × Int × Int × Int × Int × Int)} {p1 : Int → Int → Int → Int → Int → Int → Int → Int → Option Bool} {a_p0 : Option Addr} {q_p0 c_p0 : Nat} {p1v : Value} (h_p0 : SlR (FE T8) 8 m (.slice a_p0 q_p0 c_p0) p0) (hp1 : ∀ (m1 : Mu), Le m m1 → ∀ (u1 : Int), ∀ (u2 : Int), ∀ (u3 : Int), ∀ (u4 : Int), ∀ (u5 : Int), ∀ (u6 : Int), ∀ (u7 : Int), ∀ (u8 : Int), ∀ (r : Bool), p1 u1 u2 u3 u4 u5 u6 u7 u8 = some r → SpecV Try.prog p1v [.agg #[.int .i64 u1, .int .i64 u2, .int .i64 u3, .int .i64 u4, .int .i64 u5, .int .i64 u6, .int .i64 u7, .int .i64 u8]] m1 (fun v _ _ => v = .bool r)) {r : Bool} (hm : slices_ContainsFunc_sdescriptor_Test p0 p1 = some r) :
    Go.E.Spec Try.prog 51 [.slice a_p0 q_p0 c_p0, p1v] m (fun v _ _ => v = .bool r) := by
  refine Spec_enter Try.func51 rfl rfl rfl (fun w0 => ?_)
  refine WK.sub (e' := [(0, .slice a_p0 q_p0 c_p0), (1, p1v)]) ⟨rfl, rfl, trivial⟩ ?_
  obtain rfl := SlR.qlen h_p0
  refine WK.sub (e' := [(0, .slice a_p0 p0.length c_p0), (1, p1v)]) ⟨rfl, rfl, trivial⟩ ?_
  unfold slices_ContainsFunc_sdescriptor_Test at hm
  refine WK_seq ?_
  refine WK_region ?_
  refine WO_pure tbok 1 [(0, .slice a_p0 p0.length c_p0), (1, p1v), (4, .bool false)] rfl ⟨rfl, rfl, rfl, trivial⟩ ?_
  refine WO_end ?_
  refine WK_seq ?_
  refine WK_region ?_
  refine WO_pure tbok 2 [(4, .bool false), (5, .slice a_p0 p0.length c_p0), (6, p1v)] rfl ⟨rfl, rfl, rfl, trivial⟩ ?_
  obtain ⟨y_1, hc1, hm⟩ := bind_some hm
  refine WO_call0 (.int .i64 y_1) rfl rfl trivial rfl rfl rfl rfl St_closed ⟨72, #[], #[], rfl, callable_72, fun w hw => ⟨_, hw.sat, slices_IndexFunc_sdescriptor_Test_walk h_p0 hp1 hc1⟩⟩ ?_
  refine WO_pure tbok 2 [(4, .bool (decide (0 ≤ y_1)))] rfl ⟨rfl, trivial⟩ ?_
  refine WO_end ?_
  cases hm
  exact WK_ret (ret_out (L := []) (RLc_tmp rfl RLc_nil) (List.nil_sublist _) rfl)
theorem descriptor_box_walk {m : Mu} {p0_0 : Int} {p0_1 : Int} {p0_2 : Int} {p0_3 : Int}   {r : Bool} (hm : descriptor_box p0_0 p0_1 p0_2 p0_3 = some r) :
    Go.E.Spec Try.prog 53 [.agg #[.int .i64 p0_0, .int .i64 p0_1, .int .i64 p0_2, .int .i64 p0_3]] m (fun v _ _ => v = .bool r) := by
  refine Spec_enter Try.func53 rfl rfl rfl (fun w0 => ?_)
  refine WK.sub (e' := [(0, .agg #[.int .i64 p0_0, .int .i64 p0_1, .int .i64 p0_2, .int .i64 p0_3])]) ⟨rfl, trivial⟩ ?_
  refine WK.sub (e' := [(0, .agg #[.int .i64 p0_0, .int .i64 p0_1, .int .i64 p0_2, .int .i64 p0_3])]) ⟨rfl, trivial⟩ ?_
  unfold descriptor_box at hm
  refine WK_seq ?_
  refine WK_region ?_
  refine WO_box [.int .i64 p0_0, .int .i64 p0_1, .int .i64 p0_2, .int .i64 p0_3] rfl rfl trivial rfl rfl rfl (fun b1 => ?_)
  refine WO.cls (C' := St w0 m m [[⟨b1, 92, [.int .i64 p0_0, .int .i64 p0_1, .int .i64 p0_2, .int .i64 p0_3]⟩]]) (fun _ h => h) ?_
  refine WO_pure tbok 1 [(1, .pointer (some ⟨b1, 0, none⟩)), (2, .bool false)] rfl ⟨rfl, rfl, trivial⟩ ?_
  refine WO_end ?_
  refine WK_seq ?_
  refine WK_seq ?_
  obtain ⟨s_1, hx2, hm⟩ := bind_some hm
  refine WK_meet [(1, .pointer (some ⟨b1, 0, none⟩)), (2, .bool false), (24, .bool s_1)] (St w0 m m [[⟨b1, 92, [.int .i64 p0_0, .int .i64 p0_1, .int .i64 p0_2, .int .i64 p0_3]⟩]]) ?_ (fun hk3 => ?_)
  · refine WK_cond (b := s_1) rfl (fun hb4 => ?_) (fun hb4 => ?_)
    · have hm := ifT hb4 hm
      refine WK_seq ?_
      refine WK_region ?_
      refine WO_pure tbok 1 [(1, .pointer (some ⟨b1, 0, none⟩)), (2, .bool false)] rfl ⟨rfl, rfl, trivial⟩ ?_
      refine WO_end ?_
      cases hm
      exact WK_ret (ret_out (L := []) (RLc_tmp rfl RLc_nil) (List.nil_sublist _) rfl)
    · have hm := ifF hb4 hm
      refine WK_skip ?_
      refine WK_seq ?_
      refine WK_region ?_
      refine WO_pure tbok 1 [(1, .pointer (some ⟨b1, 0, none⟩)), (2, .bool false), (25, .pointer (some ⟨b1, 0, none⟩))] rfl ⟨rfl, rfl, rfl, trivial⟩ ?_
      refine WO_loadB tbok 0 rfl rfl rfl rfl (fun _ h => h) rfl rfl ?_
      refine WO_pure tbok 1 [(1, .pointer (some ⟨b1, 0, none⟩)), (2, .bool false), (26, .int .i64 p0_0), (27, .pointer (some ⟨b1, 2, none⟩))] rfl ⟨rfl, rfl, rfl, rfl, trivial⟩ ?_
      refine WO_loadB tbok 0 rfl rfl rfl rfl (fun _ h => h) rfl rfl ?_
      refine WO_pure tbok 3 [(1, .pointer (some ⟨b1, 0, none⟩)), (2, .bool false), (31, .bool (decide (p0_0 ≤ (w64 (17 - p0_2)))))] rfl ⟨rfl, rfl, rfl, trivial⟩ ?_
      refine WO_split (d := 31) (b := decide (p0_0 ≤ (w64 (17 - p0_2)))) rfl (fun hb5 => ?_) (fun hb5 => ?_)
      · have hm := ifT hb5 hm
        refine WO_pure tbok 1 [(1, .pointer (some ⟨b1, 0, none⟩)), (2, .bool false), (31, .bool true), (32, .pointer (some ⟨b1, 1, none⟩))] rfl ⟨rfl, rfl, rfl, rfl, trivial⟩ ?_
        refine WO_loadB tbok 0 rfl rfl rfl rfl (fun _ h => h) rfl rfl ?_
        refine WO_pure tbok 1 [(2, .bool false), (31, .bool true), (33, .int .i64 p0_1), (34, .pointer (some ⟨b1, 3, none⟩))] rfl ⟨rfl, rfl, rfl, rfl, trivial⟩ ?_
        refine WO_loadB tbok 0 rfl rfl rfl rfl (fun _ h => h) rfl rfl ?_
        refine WO_pure tbok 4 [(2, .bool (decide (p0_1 ≤ (w64 (17 - p0_3)))))] rfl ⟨rfl, trivial⟩ ?_
        refine WO_end ?_
        cases hm
        exact WK_ret (ret_out (L := []) (RLc_tmp rfl RLc_nil) (List.nil_sublist _) rfl)
      · have hm := ifF hb5 hm
        refine WO_pure tbok 8 [(2, .bool false)] rfl ⟨rfl, trivial⟩ ?_
        refine WO_end ?_
        cases hm
        exact WK_ret (ret_out (L := []) (RLc_tmp rfl RLc_nil) (List.nil_sublist _) rfl)
  · refine WK_region ?_
    refine WO_pure tbok 1 [(1, .pointer (some ⟨b1, 0, none⟩)), (2, .bool false), (3, .pointer (some ⟨b1, 2, none⟩))] rfl ⟨rfl, rfl, rfl, trivial⟩ ?_
    refine WO_loadB tbok 0 rfl rfl rfl rfl (fun _ h => h) rfl rfl ?_
    refine WO_pure tbok 1 [(1, .pointer (some ⟨b1, 0, none⟩)), (2, .bool false), (4, .int .i64 p0_2), (5, .pointer (some ⟨b1, 3, none⟩))] rfl ⟨rfl, rfl, rfl, rfl, trivial⟩ ?_
    refine WO_loadB tbok 0 rfl rfl rfl rfl (fun _ h => h) rfl rfl ?_
    refine WO_pure tbok 3 [(1, .pointer (some ⟨b1, 0, none⟩)), (2, .bool false), (9, .bool (decide ((if p0_3 < p0_2 then p0_3 else p0_2) < 1)))] rfl ⟨rfl, rfl, rfl, trivial⟩ ?_
    refine WO_split (d := 9) (b := decide ((if p0_3 < p0_2 then p0_3 else p0_2) < 1)) rfl (fun hb6 => ?_) (fun hb6 => ?_)
    · have hx2 := ifT hb6 hx2
      refine WO_pure tbok 15 [(1, .pointer (some ⟨b1, 0, none⟩)), (2, .bool false), (24, .bool true)] rfl ⟨rfl, rfl, rfl, trivial⟩ ?_
      refine WO_end ?_
      cases hx2
      refine WK.sub ?_ (WK.cls (fun _ h => h) hk3)
      exact ⟨rfl, rfl, rfl, trivial⟩
    · have hx2 := ifF hb6 hx2
      refine WO_pure tbok 1 [(1, .pointer (some ⟨b1, 0, none⟩)), (2, .bool false), (9, .bool false), (10, .pointer (some ⟨b1, 2, none⟩))] rfl ⟨rfl, rfl, rfl, rfl, trivial⟩ ?_
      refine WO_loadB tbok 0 rfl rfl rfl rfl (fun _ h => h) rfl rfl ?_
      refine WO_pure tbok 1 [(1, .pointer (some ⟨b1, 0, none⟩)), (2, .bool false), (9, .bool false), (11, .int .i64 p0_2), (12, .pointer (some ⟨b1, 3, none⟩))] rfl ⟨rfl, rfl, rfl, rfl, rfl, trivial⟩ ?_
      refine WO_loadB tbok 0 rfl rfl rfl rfl (fun _ h => h) rfl rfl ?_
      refine WO_pure tbok 4 [(1, .pointer (some ⟨b1, 0, none⟩)), (2, .bool false), (17, .bool (decide (8 < (if p0_2 < p0_3 then p0_3 else p0_2))))] rfl ⟨rfl, rfl, rfl, trivial⟩ ?_
      refine WO_split (d := 17) (b := decide (8 < (if p0_2 < p0_3 then p0_3 else p0_2))) rfl (fun hb7 => ?_) (fun hb7 => ?_)
      · have hx2 := ifT hb7 hx2
        refine WO_pure tbok 7 [(1, .pointer (some ⟨b1, 0, none⟩)), (2, .bool false), (24, .bool true)] rfl ⟨rfl, rfl, rfl, trivial⟩ ?_
        refine WO_end ?_
        cases hx2
        refine WK.sub ?_ (WK.cls (fun _ h => h) hk3)
        exact ⟨rfl, rfl, rfl, trivial⟩
      · have hx2 := ifF hb7 hx2
        refine WO_pure tbok 1 [(1, .pointer (some ⟨b1, 0, none⟩)), (2, .bool false), (17, .bool false), (18, .pointer (some ⟨b1, 0, none⟩))] rfl ⟨rfl, rfl, rfl, rfl, trivial⟩ ?_
        refine WO_loadB tbok 0 rfl rfl rfl rfl (fun _ h => h) rfl rfl ?_
        refine WO_pure tbok 1 [(1, .pointer (some ⟨b1, 0, none⟩)), (2, .bool false), (17, .bool false), (19, .int .i64 p0_0), (20, .pointer (some ⟨b1, 1, none⟩))] rfl ⟨rfl, rfl, rfl, rfl, rfl, trivial⟩ ?_
        refine WO_loadB tbok 0 rfl rfl rfl rfl (fun _ h => h) rfl rfl ?_
        refine WO_pure tbok 3 [(1, .pointer (some ⟨b1, 0, none⟩)), (2, .bool false), (24, .bool (decide ((if p0_1 < p0_0 then p0_1 else p0_0) < (-16))))] rfl ⟨rfl, rfl, rfl, trivial⟩ ?_
        refine WO_end ?_
        cases hx2
        refine WK.sub ?_ (WK.cls (fun _ h => h) hk3)
        exact ⟨rfl, rfl, rfl, trivial⟩
theorem descriptor_Check_c1_walk {m : Mu} {p0_0 : Int} {p0_1 : Int} {p0_2 : Int} {p0_3 : Int} {p0_4 : Int} {p0_5 : Int} {p0_6 : Int} {p0_7 : Int}   {r : Bool} (hm : descriptor_Check_c1 p0_0 p0_1 p0_2 p0_3 p0_4 p0_5 p0_6 p0_7 = some r) :
    Go.E.Spec Try.prog 52 [.agg #[.int .i64 p0_0, .int .i64 p0_1, .int .i64 p0_2, .int .i64 p0_3, .int .i64 p0_4, .int .i64 p0_5, .int .i64 p0_6, .int .i64 p0_7]] m (fun v _ _ => v = .bool r) := by
  refine Spec_enter Try.func52 rfl rfl rfl (fun w0 => ?_)
  refine WK.sub (e' := [(0, .agg #[.int .i64 p0_0, .int .i64 p0_1, .int .i64 p0_2, .int .i64 p0_3, .int .i64 p0_4, .int .i64 p0_5, .int .i64 p0_6, .int .i64 p0_7])]) ⟨rfl, trivial⟩ ?_
  refine WK.sub (e' := [(0, .agg #[.int .i64 p0_0, .int .i64 p0_1, .int .i64 p0_2, .int .i64 p0_3, .int .i64 p0_4, .int .i64 p0_5, .int .i64 p0_6, .int .i64 p0_7])]) ⟨rfl, trivial⟩ ?_
  unfold descriptor_Check_c1 at hm
  refine WK_seq ?_
  refine WK_region ?_
  refine WO_box [.int .i64 p0_0, .int .i64 p0_1, .int .i64 p0_2, .int .i64 p0_3, .int .i64 p0_4, .int .i64 p0_5, .int .i64 p0_6, .int .i64 p0_7] rfl rfl trivial rfl rfl rfl (fun b1 => ?_)
  refine WO.cls (C' := St w0 m m [[⟨b1, 94, [.int .i64 p0_0, .int .i64 p0_1, .int .i64 p0_2, .int .i64 p0_3, .int .i64 p0_4, .int .i64 p0_5, .int .i64 p0_6, .int .i64 p0_7]⟩]]) (fun _ h => h) ?_
  refine WO_pure tbok 1 [(1, .pointer (some ⟨b1, 0, none⟩)), (2, .bool false)] rfl ⟨rfl, rfl, trivial⟩ ?_
  refine WO_end ?_
  refine WK_seq ?_
  refine WK_region ?_
  refine WO_pure tbok 1 [(1, .pointer (some ⟨b1, 0, none⟩)), (2, .bool false), (3, .pointer (some ⟨b1, 0, none⟩))] rfl ⟨rfl, rfl, rfl, trivial⟩ ?_
  refine WO_loadB tbok 0 rfl rfl rfl rfl (fun _ h => h) rfl rfl ?_
  obtain ⟨y_1, hc2, hm⟩ := bind_some hm
  refine WO_call0 (.bool y_1) rfl rfl trivial rfl rfl rfl rfl St_closed ⟨53, #[], #[], rfl, callable_53, fun w hw => ⟨_, hw.sat, descriptor_box_walk hc2⟩⟩ ?_
  refine WO_pure tbok 2 [(1, .pointer (some ⟨b1, 0, none⟩)), (2, .bool false), (7, .bool (!y_1))] rfl ⟨rfl, rfl, rfl, trivial⟩ ?_
  refine WO_split (d := 7) (b := !y_1) rfl (fun hb3 => ?_) (fun hb3 => ?_)
  · have hm := ifT hb3 hm
    refine WO_pure tbok 2 [(2, .bool false), (7, .bool true)] rfl ⟨rfl, rfl, trivial⟩ ?_
    refine WO_skip rfl rfl ?_
    refine WO_pure tbok 3 [(2, .bool true)] rfl ⟨rfl, trivial⟩ ?_
    refine WO_end ?_
    cases hm
    exact WK_ret (ret_out (L := []) (RLc_tmp rfl RLc_nil) (List.nil_sublist _) rfl)
  · have hm := ifF hb3 hm
    refine WO_pure tbok 1 [(2, .bool false), (7, .bool false), (8, .pointer (some ⟨b1, 4, none⟩))] rfl ⟨rfl, rfl, rfl, trivial⟩ ?_
    refine WO_loadB tbok 0 rfl rfl rfl rfl (fun _ h => h) rfl rfl ?_
    obtain ⟨y_2, hc4, hm⟩ := bind_some hm
    refine WO_call0 (.bool y_2) rfl rfl trivial rfl rfl rfl rfl St_closed ⟨53, #[], #[], rfl, callable_53, fun w hw => ⟨_, hw.sat, descriptor_box_walk hc4⟩⟩ ?_
    refine WO_pure tbok 3 [(2, .bool (!y_2))] rfl ⟨rfl, trivial⟩ ?_
    refine WO_end ?_
    cases hm
    exact WK_ret (ret_out (L := []) (RLc_tmp rfl RLc_nil) (List.nil_sublist _) rfl)
theorem descriptor_Check_walk {m : Mu} {p0 : List (Int × Int × Int × Int × Int × Int × Int × Int)} {a_p0 : Option Addr} {q_p0 c_p0 : Nat} (h_p0 : SlR (FE T8) 8 m (.slice a_p0 q_p0 c_p0) p0) {r : Int} (hm : descriptor_Check p0 = some r) :
    Go.E.Spec Try.prog 20 [.slice a_p0 q_p0 c_p0] m (fun v _ _ => v = .int .i64 r) := by
  refine Spec_enter Try.func20 rfl rfl rfl (fun w0 => ?_)
  refine WK.sub (e' := [(0, .slice a_p0 q_p0 c_p0)]) ⟨rfl, trivial⟩ ?_
  obtain rfl := SlR.qlen h_p0
  refine WK.sub (e' := [(0, .slice a_p0 p0.length c_p0)]) ⟨rfl, trivial⟩ ?_
  unfold descriptor_Check at hm
  refine WK_seq ?_
  refine WK_region ?_
  refine WO_pure tbok 1 [(0, .slice a_p0 p0.length c_p0), (2, .int .i64 0)] rfl ⟨rfl, rfl, trivial⟩ ?_
  refine WO_end ?_
  refine WK_seq ?_
  refine WK_seq ?_
  obtain ⟨s_1, hx1, hm⟩ := bind_some hm
  refine WK_meet [(2, .int .i64 0), (14, .bool s_1)] (St w0 m m []) ?_ (fun hk2 => ?_)
  · refine WK_cond (b := s_1) rfl (fun hb3 => ?_) (fun hb3 => ?_)
    · have hm := ifT hb3 hm
      refine WK_seq ?_
      refine WK_region ?_
      refine WO_pure tbok 1 [(2, .int .i64 1)] rfl ⟨rfl, trivial⟩ ?_
      refine WO_end ?_
      cases hm
      exact WK_ret (ret_out (L := []) (RLc_tmp rfl RLc_nil) (List.nil_sublist _) rfl)
    · have hm := ifF hb3 hm
      refine WK_skip ?_
      refine WK_seq ?_
      refine WK_region ?_
      refine WO_pure tbok 1 [(2, .int .i64 0)] rfl ⟨rfl, trivial⟩ ?_
      refine WO_end ?_
      cases hm
      exact WK_ret (ret_out (L := []) (RLc_tmp rfl RLc_nil) (List.nil_sublist _) rfl)
  · refine WK_region ?_
    refine WO_pure tbok 4 [(0, .slice a_p0 p0.length c_p0), (2, .int .i64 0), (6, .bool (decide ((p0.length : Int) < 1)))] rfl ⟨rfl, rfl, rfl, trivial⟩ ?_
    refine WO_split (d := 6) (b := decide ((p0.length : Int) < 1)) rfl (fun hb4 => ?_) (fun hb4 => ?_)
    · have hx1 := ifT hb4 hx1
      refine WO_pure tbok 6 [(2, .int .i64 0), (11, .bool true)] rfl ⟨rfl, rfl, trivial⟩ ?_
      refine WO_skip rfl rfl ?_
      refine WO_pure tbok 1 [(2, .int .i64 0), (14, .bool true)] rfl ⟨rfl, rfl, trivial⟩ ?_
      refine WO_end ?_
      cases hx1
      refine WK.sub ?_ (WK.cls (fun _ h => h) hk2)
      exact ⟨rfl, rfl, trivial⟩
    · have hx1 := ifF hb4 hx1
      refine WO_pure tbok 5 [(0, .slice a_p0 p0.length c_p0), (2, .int .i64 0), (11, .bool (decide (64 < (p0.length : Int))))] rfl ⟨rfl, rfl, rfl, trivial⟩ ?_
      refine WO_split (d := 11) (b := decide (64 < (p0.length : Int))) rfl (fun hb5 => ?_) (fun hb5 => ?_)
      · have hx1 := ifT hb5 hx1
        refine WO_pure tbok 1 [(2, .int .i64 0), (11, .bool true)] rfl ⟨rfl, rfl, trivial⟩ ?_
        refine WO_skip rfl rfl ?_
        refine WO_pure tbok 1 [(2, .int .i64 0), (14, .bool true)] rfl ⟨rfl, rfl, trivial⟩ ?_
        refine WO_end ?_
        cases hx1
        refine WK.sub ?_ (WK.cls (fun _ h => h) hk2)
        exact ⟨rfl, rfl, trivial⟩
      · have hx1 := ifF hb5 hx1
        refine WO_pure tbok 1 [(2, .int .i64 0), (11, .bool false), (12, .slice a_p0 p0.length c_p0)] rfl ⟨rfl, rfl, rfl, trivial⟩ ?_
        obtain ⟨y_10, hc6, hx1⟩ := bind_some hx1
        refine WO_call0 (.bool y_10) rfl rfl trivial rfl rfl rfl rfl St_closed ⟨51, #[], #[], rfl, callable_51, fun w hw => ⟨_, hw.sat, slices_ContainsFunc_sdescriptor_Test_walk h_p0 (fun m1 hm1 z_2 z_3 z_4 z_5 z_6 z_7 z_8 z_9 _ h => specV_cap callable_52 (descriptor_Check_c1_walk h)) hc6⟩⟩ ?_
        refine WO_pure tbok 1 [(2, .int .i64 0), (14, .bool y_10)] rfl ⟨rfl, rfl, trivial⟩ ?_
        refine WO_end ?_
        cases hx1
        refine WK.sub ?_ (WK.cls (fun _ h => h) hk2)
        exact ⟨rfl, rfl, trivial⟩
def descriptor_opened_Q (r : Int × Int × Int × List Int × List (List Int) × Int) : Value → Mu → List Ent → Prop := fun v m L => ∃ (a0 : Option Addr) (q0 c0 : Nat) (a1 : Option Addr) (q1 c1 : Nat), v = .tuple #[.agg #[.int .i64 r.1, .int .i64 r.2.1, .int .i64 r.2.2.1, .slice a0 q0 c0, .slice a1 q1 c1], .int .i64 r.2.2.2.2.2] ∧ SlR (FE (I1 .i64)) 1 m (.slice a0 q0 c0) r.2.2.2.1 ∧ SlR (RowE (FE (I1 .i64)) 1) 1 m (.slice a1 q1 c1) r.2.2.2.2.1
theorem descriptor_opened_walk {m : Mu} {p0_0 : Int} {p0_1 : Int} {p0_2 : Int} {p0_3 : List Int} {p1 : List (Int × Int × Int × Int × Int × Int × Int × Int)} {a_p0_3 : Option Addr} {q_p0_3 c_p0_3 : Nat} {a_p1 : Option Addr} {q_p1 c_p1 : Nat} (h_p0_3 : SlR (FE (I1 .i64)) 1 m (.slice a_p0_3 q_p0_3 c_p0_3) p0_3) (h_p1 : SlR (FE T8) 8 m (.slice a_p1 q_p1 c_p1) p1) {r : Int × Int × Int × List Int × List (List Int) × Int} (hm : descriptor_opened p0_0 p0_1 p0_2 p0_3 p1 = some r) :
    Go.E.Spec Try.prog 54 [.agg #[.int .i64 p0_0, .int .i64 p0_1, .int .i64 p0_2, .slice a_p0_3 q_p0_3 c_p0_3], .slice a_p1 q_p1 c_p1] m (descriptor_opened_Q r) := by
  refine Spec_enter Try.func54 rfl rfl rfl (fun w0 => ?_)
  refine WK.sub (e' := [(0, .agg #[.int .i64 p0_0, .int .i64 p0_1, .int .i64 p0_2, .slice a_p0_3 q_p0_3 c_p0_3]), (1, .slice a_p1 q_p1 c_p1)]) ⟨rfl, rfl, trivial⟩ ?_
  obtain rfl := SlR.qlen h_p0_3
  obtain rfl := SlR.qlen h_p1
  refine WK.sub (e' := [(0, .agg #[.int .i64 p0_0, .int .i64 p0_1, .int .i64 p0_2, .slice a_p0_3 p0_3.length c_p0_3]), (1, .slice a_p1 p1.length c_p1)]) ⟨rfl, rfl, trivial⟩ ?_
  unfold descriptor_opened at hm
  refine WK_seq ?_
  refine WK_region ?_
  refine WO_box [.int .i64 p0_0, .int .i64 p0_1, .int .i64 p0_2, .slice a_p0_3 p0_3.length c_p0_3] rfl rfl trivial rfl rfl rfl (fun b1 => ?_)
  refine WO.cls (C' := St w0 m m [[⟨b1, 24, [.int .i64 p0_0, .int .i64 p0_1, .int .i64 p0_2, .slice a_p0_3 p0_3.length c_p0_3]⟩]]) (fun _ h => h) ?_
  refine WO_alloc tbok [.int .i64 0, .int .i64 0, .int .i64 0, .slice none 0 0, .slice none 0 0] rfl rfl trivial rfl rfl rfl rfl (fun b2 => ?_)
  refine WO.cls (C' := St w0 m m [[⟨b1, 24, [.int .i64 p0_0, .int .i64 p0_1, .int .i64 p0_2, .slice a_p0_3 p0_3.length c_p0_3]⟩], [⟨b2, 101, [.int .i64 0, .int .i64 0, .int .i64 0, .slice none 0 0, .slice none 0 0]⟩]]) (fun _ h => h) ?_
  refine WO_pure tbok 1 [(1, .slice a_p1 p1.length c_p1), (2, .pointer (some ⟨b1, 0, none⟩)), (4, .pointer (some ⟨b2, 0, none⟩)), (5, .int .i64 0)] rfl ⟨rfl, rfl, rfl, rfl, trivial⟩ ?_
  refine WO_end ?_
  refine WK_seq ?_
  refine WK_region ?_
  refine WO_loadB tbok 0 rfl rfl rfl rfl (fun _ h => h) rfl rfl ?_
  obtain ⟨⟨y_1, y_2, y_3, y_4, y_5, y_6⟩, hc3, hm⟩ := bind_some hm
  refine WO_call2 (descriptor_open_Q (y_1, y_2, y_3, y_4, y_5, y_6)) rfl rfl trivial rfl rfl rfl rfl ⟨73, #[], #[], rfl, callable_73, descriptor_open_walk h_p0_3 hc3⟩ (fun v9 m10 L8 hle11 hq => ?_)
  obtain ⟨a4, qa4, c5, a6, qa6, c7, rfl, h12, h13⟩ := hq
  obtain rfl := SlR.qlen h12
  obtain rfl := SlR.qlen h13
  refine WO.cls (C' := St w0 m m10 [[⟨b1, 24, [.int .i64 p0_0, .int .i64 p0_1, .int .i64 p0_2, .slice a_p0_3 p0_3.length c_p0_3]⟩], [⟨b2, 101, [.int .i64 0, .int .i64 0, .int .i64 0, .slice none 0 0, .slice none 0 0]⟩], L8]) (fun _ h => h.sub (by simp)) ?_
  refine WO_pure tbok 3 [(1, .slice a_p1 p1.length c_p1), (4, .pointer (some ⟨b2, 0, none⟩)), (5, .int .i64 0), (11, .agg #[.int .i64 y_1, .int .i64 y_2, .int .i64 y_3, .slice a4 ((y_4).length) c5, .slice a6 ((y_5).length) c7]), (12, .int .i64 y_6)] rfl ⟨rfl, rfl, rfl, rfl, rfl, trivial⟩ ?_
  refine WO_alloc tbok [.int .i64 0, .int .i64 0, .int .i64 0, .slice none 0 0, .slice none 0 0] rfl rfl trivial rfl rfl rfl rfl (fun b14 => ?_)
  refine WO.cls (C' := St w0 m m10 [[⟨b1, 24, [.int .i64 p0_0, .int .i64 p0_1, .int .i64 p0_2, .slice a_p0_3 p0_3.length c_p0_3]⟩], [⟨b2, 101, [.int .i64 0, .int .i64 0, .int .i64 0, .slice none 0 0, .slice none 0 0]⟩], L8, [⟨b14, 101, [.int .i64 0, .int .i64 0, .int .i64 0, .slice none 0 0, .slice none 0 0]⟩]]) (fun _ h => h) ?_
  refine WO_storeB tbok 3 [.int .i64 y_1, .int .i64 y_2, .int .i64 y_3, .slice a4 ((y_4).length) c5, .slice a6 ((y_5).length) c7] rfl rfl rfl rfl rfl rfl rfl ?_
  refine WO.cls (C' := St w0 m m10 [[⟨b1, 24, [.int .i64 p0_0, .int .i64 p0_1, .int .i64 p0_2, .slice a_p0_3 p0_3.length c_p0_3]⟩], [⟨b2, 101, [.int .i64 0, .int .i64 0, .int .i64 0, .slice none 0 0, .slice none 0 0]⟩], L8, [⟨b14, 101, [.int .i64 y_1, .int .i64 y_2, .int .i64 y_3, .slice a4 ((y_4).length) c5, .slice a6 ((y_5).length) c7]⟩]]) (fun _ h => h) ?_
  refine WO_pure tbok 1 [(1, .slice a_p1 p1.length c_p1), (4, .pointer (some ⟨b2, 0, none⟩)), (5, .int .i64 0), (6, .pointer (some ⟨b14, 0, none⟩)), (7, .int .i64 y_6)] rfl ⟨rfl, rfl, rfl, rfl, rfl, trivial⟩ ?_
  refine WO_end ?_
  refine WK_seq ?_
  refine WK_seq ?_
  refine WK_region ?_
  refine WO_pure tbok 2 [(1, .slice a_p1 p1.length c_p1), (4, .pointer (some ⟨b2, 0, none⟩)), (5, .int .i64 0), (6, .pointer (some ⟨b14, 0, none⟩)), (7, .int .i64 y_6), (14, .bool (y_6 == 0))] rfl ⟨rfl, rfl, rfl, rfl, rfl, rfl, trivial⟩ ?_
  refine WO_end ?_
  obtain ⟨s_7, hx15, hm⟩ := bind_some hm
  refine WK_meet [(4, .pointer (some ⟨b2, 0, none⟩)), (5, .int .i64 0), (6, .pointer (some ⟨b14, 0, none⟩)), (7, .int .i64 s_7)] (St w0 m m10 [[⟨b1, 24, [.int .i64 p0_0, .int .i64 p0_1, .int .i64 p0_2, .slice a_p0_3 p0_3.length c_p0_3]⟩], [⟨b2, 101, [.int .i64 0, .int .i64 0, .int .i64 0, .slice none 0 0, .slice none 0 0]⟩], L8, [⟨b14, 101, [.int .i64 y_1, .int .i64 y_2, .int .i64 y_3, .slice a4 ((y_4).length) c5, .slice a6 ((y_5).length) c7]⟩]]) ?_ (fun hk16 => ?_)
  · refine WK_seq ?_
    refine WK_region ?_
    refine WO_loadB tbok 3 rfl rfl rfl rfl (fun _ h => h) rfl rfl ?_
    refine WO_pure tbok 1 [(4, .pointer (some ⟨b2, 0, none⟩)), (5, .int .i64 0), (17, .agg #[.int .i64 y_1, .int .i64 y_2, .int .i64 y_3, .slice a4 ((y_4).length) c5, .slice a6 ((y_5).length) c7]), (18, .int .i64 s_7)] rfl ⟨rfl, rfl, rfl, rfl, trivial⟩ ?_
    refine WO_storeB tbok 1 [.int .i64 y_1, .int .i64 y_2, .int .i64 y_3, .slice a4 ((y_4).length) c5, .slice a6 ((y_5).length) c7] rfl rfl rfl rfl rfl rfl rfl ?_
    refine WO.cls (C' := St w0 m m10 [[⟨b1, 24, [.int .i64 p0_0, .int .i64 p0_1, .int .i64 p0_2, .slice a_p0_3 p0_3.length c_p0_3]⟩], [⟨b2, 101, [.int .i64 y_1, .int .i64 y_2, .int .i64 y_3, .slice a4 ((y_4).length) c5, .slice a6 ((y_5).length) c7]⟩], L8, [⟨b14, 101, [.int .i64 y_1, .int .i64 y_2, .int .i64 y_3, .slice a4 ((y_4).length) c5, .slice a6 ((y_5).length) c7]⟩]]) (fun _ h => h) ?_
    refine WO_pure tbok 1 [(4, .pointer (some ⟨b2, 0, none⟩)), (5, .int .i64 s_7)] rfl ⟨rfl, rfl, trivial⟩ ?_
    refine WO_end ?_
    cases hm
    exact WK_ret (ret_out (L := []) (RLc_cell tbok 1 rfl rfl rfl (RLc_tmp rfl RLc_nil)) (List.nil_sublist _) ⟨a4, _, c5, a6, _, c7, rfl, h12, h13⟩)
  · refine WK_cond (b := y_6 == 0) rfl (fun hb17 => ?_) (fun hb17 => ?_)
    · have hx15 := ifT hb17 hx15
      refine WK_region ?_
      refine WO_pure tbok 1 [(4, .pointer (some ⟨b2, 0, none⟩)), (5, .int .i64 0), (6, .pointer (some ⟨b14, 0, none⟩)), (7, .int .i64 y_6), (15, .slice a_p1 p1.length c_p1)] rfl ⟨rfl, rfl, rfl, rfl, rfl, trivial⟩ ?_
      obtain ⟨y_8, hc18, hx15⟩ := bind_some hx15
      refine WO_call0 (.int .i64 y_8) rfl rfl trivial rfl rfl rfl rfl St_closed ⟨20, #[], #[], rfl, callable_20, fun w hw => ⟨_, hw.sat, descriptor_Check_walk (h_p1.mono (mono_FE _) hle11) hc18⟩⟩ ?_
      refine WO_pure tbok 1 [(4, .pointer (some ⟨b2, 0, none⟩)), (5, .int .i64 0), (6, .pointer (some ⟨b14, 0, none⟩)), (7, .int .i64 y_8)] rfl ⟨rfl, rfl, rfl, rfl, trivial⟩ ?_
      refine WO_end ?_
      cases hx15
      refine WK.sub ?_ (WK.cls (fun _ h => h) hk16)
      exact ⟨rfl, rfl, rfl, rfl, trivial⟩
    · have hx15 := ifF hb17 hx15
      refine WK_skip ?_
      cases hx15
      refine WK.sub ?_ (WK.cls (fun _ h => h) hk16)
      exact ⟨rfl, rfl, rfl, rfl, trivial⟩
theorem slices_IndexFunc_ssint_walk {m : Mu} {p0 : List (List Int)} {p1 : List Int → Option Bool} {a_p0 : Option Addr} {q_p0 c_p0 : Nat} {p1v : Value} (h_p0 : SlR (RowE (FE (I1 .i64)) 1) 1 m (.slice a_p0 q_p0 c_p0) p0) (hp1 : ∀ (m1 : Mu), Le m m1 → ∀ (au1 : Option Addr) (qu1 cu1 : Nat) (u1 : List Int), SlR (FE (I1 .i64)) 1 m1 (.slice au1 qu1 cu1) u1 → ∀ (r : Bool), p1 u1 = some r → SpecV Try.prog p1v [.slice au1 qu1 cu1] m1 (fun v _ _ => v = .bool r)) {r : Int} (hm : slices_IndexFunc_ssint p0 p1 = some r) :
    Go.E.Spec Try.prog 98 [.slice a_p0 q_p0 c_p0, p1v] m (fun v _ _ => v = .int .i64 r) := by
  refine Spec_enter Try.func98 rfl rfl rfl (fun w0 => ?_)
  refine WK.sub (e' := [(0, .slice a_p0 q_p0 c_p0), (1, p1v)]) ⟨rfl, rfl, trivial⟩ ?_
  obtain rfl := SlR.qlen h_p0
  refine WK.sub (e' := [(0, .slice a_p0 p0.length c_p0), (1, p1v)]) ⟨rfl, rfl, trivial⟩ ?_
  unfold slices_IndexFunc_ssint at hm
  refine WK_seq ?_
  refine WK_region ?_
  refine WO_pure tbok 1 [(0, .slice a_p0 p0.length c_p0), (1, p1v), (4, .int .i64 0)] rfl ⟨rfl, rfl, rfl, trivial⟩ ?_
  refine WO_end ?_
  refine WK_seq ?_
  refine WK_seq ?_
  refine WK_region ?_
  refine WO_pure tbok 3 [(0, .slice a_p0 p0.length c_p0), (1, p1v), (4, .int .i64 0), (7, .int .i64 (p0.length : Int)), (8, .int .i64 0)] rfl ⟨rfl, rfl, rfl, rfl, rfl, trivial⟩ ?_
  refine WO_end ?_
  obtain ⟨x1, hx2, hm⟩ := bind_some hm
  refine WK_join (β := Unit × Unit) (fun p => Sum.inr p.1 = x1) (fun p => [(4, .int .i64 0)]) (fun p => St w0 m m []) ?_ (fun hk3 => ?_)
  · rintro ⟨⟨⟩, ⟨⟩⟩ hq9
    subst hq9
    refine WK.sub (e' := [(4, .int .i64 0)]) ⟨rfl, trivial⟩ (WK.cls (C' := St w0 m m []) (fun _ h => h) ?_)
    refine WK_seq ?_
    refine WK_region ?_
    refine WO_pure tbok 1 [(4, .int .i64 (-1))] rfl ⟨rfl, trivial⟩ ?_
    refine WO_end ?_
    cases hm
    exact WK_ret (ret_out (L := []) (RLc_tmp rfl RLc_nil) (List.nil_sublist _) rfl)
  · refine WK_block ?_
    refine WK_loop (S := Int) (G := Unit) (fun s => slices_IndexFunc_ssint_s1 p0 p1 s) (fun s g => [(0, .slice a_p0 p0.length c_p0), (1, p1v), (4, .int .i64 0), (7, .int .i64 (p0.length : Int)), (8, .int .i64 s)]) (fun s g => St w0 m m []) (fun s g => True) FUEL 0 () x1 hx2 trivial ⟨rfl, rfl, rfl, rfl, rfl, trivial⟩ (fun _ h => h) ?_
    rintro s_1 ⟨⟩ o5 fl6 hm4 - hn7 hd8
    have hm4 : slices_IndexFunc_ssint_s1 p0 p1 s_1 = some o5 := hm4
    unfold slices_IndexFunc_ssint_s1 at hm4
    refine WK.sub (e' := [(0, .slice a_p0 p0.length c_p0), (1, p1v), (4, .int .i64 0), (7, .int .i64 (p0.length : Int)), (8, .int .i64 s_1)]) ⟨rfl, rfl, rfl, rfl, rfl, trivial⟩ (WK.cls (C' := St w0 m m []) (fun _ h => h) ?_)
    refine WK_seq ?_
    refine WK_region ?_
    refine WO_pure tbok 1 [(0, .slice a_p0 p0.length c_p0), (1, p1v), (4, .int .i64 0), (7, .int .i64 (p0.length : Int)), (8, .int .i64 s_1), (9, .bool (decide (s_1 < (p0.length : Int))))] rfl ⟨rfl, rfl, rfl, rfl, rfl, rfl, trivial⟩ ?_
    refine WO_end ?_
    refine WK_seq ?_
    refine WK_cond (b := decide (s_1 < (p0.length : Int))) rfl (fun hb10 => ?_) (fun hb10 => ?_)
    · have hm4 := ifT hb10 hm4
      refine WK_skip ?_
      refine WK_seq ?_
      refine WK_block ?_
      refine WK_seq ?_
      refine WK_region ?_
      refine WO_pure tbok 2 [(0, .slice a_p0 p0.length c_p0), (1, p1v), (4, .int .i64 0), (5, .int .i64 s_1), (7, .int .i64 (p0.length : Int)), (8, .int .i64 s_1)] rfl ⟨rfl, rfl, rfl, rfl, rfl, rfl, trivial⟩ ?_
      refine WO_end ?_
      refine WK_seq ?_
      refine WK_region ?_
      refine WO_pure tbok 3 [(0, .slice a_p0 p0.length c_p0), (1, p1v), (4, .int .i64 0), (5, .int .i64 s_1), (7, .int .i64 (p0.length : Int)), (8, .int .i64 s_1), (11, p1v), (12, .slice a_p0 p0.length c_p0), (13, .int .i64 s_1)] rfl ⟨rfl, rfl, rfl, rfl, rfl, rfl, rfl, rfl, rfl, trivial⟩ ?_
      obtain ⟨v_2, hy11, hm4⟩ := bind_some hm4
      obtain ⟨hc12, hy11⟩ := ix_some hy11
      refine WO_index tbok rfl rfl rfl rfl rfl rfl rfl rfl (SlR.addr h_p0) hc12 ?_
      refine WO_loadR tbok rfl rfl rfl rfl (fun _ h => St.sat h) h_p0 hy11 rfl rfl (fun a13 c14 h15 => ?_)
      obtain ⟨y_3, hc16, hm4⟩ := bind_some hm4
      obtain ⟨f0, first0, cap0, hf0, hcal0, hsp0⟩ := hp1 _ (Le.refl _) _ _ _ v_2 h15 _ hc16
      refine WO_call0 (.bool y_3) rfl rfl trivial rfl rfl rfl rfl St_closed ⟨f0, first0, cap0, hf0, hcal0, fun w hw => ⟨m, hw.sat, hsp0⟩⟩ ?_
      refine WO_end ?_
      refine WK_cond (b := y_3) rfl (fun hb17 => ?_) (fun hb17 => ?_)
      · have hm4 := ifT hb17 hm4
        refine WK_seq ?_
        refine WK_region ?_
        refine WO_pure tbok 2 [(0, .slice a_p0 p0.length c_p0), (1, p1v), (4, .int .i64 s_1), (7, .int .i64 (p0.length : Int)), (8, .int .i64 s_1)] rfl ⟨rfl, rfl, rfl, rfl, rfl, trivial⟩ ?_
        refine WO_end ?_
        cases hm4
        have hq := hd8 _ rfl
        subst hq
        have hm : some _ = some _ := hm
        cases hm
        exact WK_ret (ret_out (L := []) (RLc_tmp rfl RLc_nil) (List.nil_sublist _) rfl)
      · have hm4 := ifF hb17 hm4
        refine WK_skip ?_
        refine WK_blk ?_
        refine WK_region ?_
        refine WO_pure tbok 2 [(0, .slice a_p0 p0.length c_p0), (1, p1v), (4, .int .i64 0), (7, .int .i64 (p0.length : Int)), (8, .int .i64 (w64 (s_1 + 1)))] rfl ⟨rfl, rfl, rfl, rfl, rfl, trivial⟩ ?_
        refine WO_end ?_
        cases hm4
        refine WK.sub ?_ (WK.cls (fun _ h => h) (hn7 _ () rfl trivial))
        exact ⟨rfl, rfl, rfl, rfl, rfl, trivial⟩
    · have hm4 := ifF hb10 hm4
      refine WK_exit rfl ?_
      cases hm4
      refine WK.sub ?_ (WK.cls (fun _ h => h) (hk3 ((), ()) (hd8 _ rfl)))
      exact ⟨rfl, trivial⟩
theorem slices_ContainsFunc_ssint_walk {m : Mu} {p0 : List (List Int)} {p1 : List Int → Option Bool} {a_p0 : Option Addr} {q_p0 c_p0 : Nat} {p1v : Value} (h_p0 : SlR (RowE (FE (I1 .i64)) 1) 1 m (.slice a_p0 q_p0 c_p0) p0) (hp1 : ∀ (m1 : Mu), Le m m1 → ∀ (au1 : Option Addr) (qu1 cu1 : Nat) (u1 : List Int), SlR (FE (I1 .i64)) 1 m1 (.slice au1 qu1 cu1) u1 → ∀ (r : Bool), p1 u1 = some r → SpecV Try.prog p1v [.slice au1 qu1 cu1] m1 (fun v _ _ => v = .bool r)) {r : Bool} (hm : slices_ContainsFunc_ssint p0 p1 = some r) :
    Go.E.Spec Try.prog 85 [.slice a_p0 q_p0 c_p0, p1v] m (fun v _ _ => v = .bool r) := by
  refine Spec_enter Try.func85 rfl rfl rfl (fun w0 => ?_)
  refine WK.sub (e' := [(0, .slice a_p0 q_p0 c_p0), (1, p1v)]) ⟨rfl, rfl, trivial⟩ ?_
  obtain rfl := SlR.qlen h_p0
  refine WK.sub (e' := [(0, .slice a_p0 p0.length c_p0), (1, p1v)]) ⟨rfl, rfl, trivial⟩ ?_
  unfold slices_ContainsFunc_ssint at hm
  refine WK_seq ?_
  refine WK_region ?_
  refine WO_pure tbok 1 [(0, .slice a_p0 p0.length c_p0), (1, p1v), (4, .bool false)] rfl ⟨rfl, rfl, rfl, trivial⟩ ?_
  refine WO_end ?_
  refine WK_seq ?_
  refine WK_region ?_
  refine WO_pure tbok 2 [(4, .bool false), (5, .slice a_p0 p0.length c_p0), (6, p1v)] rfl ⟨rfl, rfl, rfl, trivial⟩ ?_
  obtain ⟨y_1, hc1, hm⟩ := bind_some hm
  refine WO_call0 (.int .i64 y_1) rfl rfl trivial rfl rfl rfl rfl St_closed ⟨98, #[], #[], rfl, callable_98, fun w hw => ⟨_, hw.sat, slices_IndexFunc_ssint_walk h_p0 hp1 hc1⟩⟩ ?_
  refine WO_pure tbok 2 [(4, .bool (decide (0 ≤ y_1)))] rfl ⟨rfl, trivial⟩ ?_
  refine WO_end ?_
  cases hm
  exact WK_ret (ret_out (L := []) (RLc_tmp rfl RLc_nil) (List.nil_sublist _) rfl)
theorem raster_Sum_c1_walk {m : Mu} {p0 : List Int} {q0_0 : List (List Int)} {a_p0 : Option Addr} {q_p0 c_p0 : Nat} {a_q0_0 : Option Addr} {q_q0_0 c_q0_0 : Nat} {b_q0 : Nat} (h_p0 : SlR (FE (I1 .i64)) 1 m (.slice a_p0 q_p0 c_p0) p0) (hb_q0 : m b_q0 = some (Ent.obj ⟨b_q0, 39, [.slice a_q0_0 q_q0_0 c_q0_0]⟩)) (h_q0_0 : SlR (RowE (FE (I1 .i64)) 1) 1 m (.slice a_q0_0 q_q0_0 c_q0_0) q0_0) {r : Bool} (hm : raster_Sum_c1 p0 q0_0 = some r) :
    Go.E.Spec Try.prog 86 [.slice a_p0 q_p0 c_p0, .pointer (some ⟨b_q0, 0, none⟩)] m (fun v _ _ => v = .bool r) := by
  refine Spec_enter Try.func86 rfl rfl rfl (fun w0 => ?_)
  refine WK.sub (e' := [(0, .slice a_p0 q_p0 c_p0), (1, .pointer (some ⟨b_q0, 0, none⟩))]) ⟨rfl, rfl, trivial⟩ ?_
  obtain rfl := SlR.qlen h_p0
  obtain rfl := SlR.qlen h_q0_0
  refine WK.sub (e' := [(0, .slice a_p0 p0.length c_p0), (1, .pointer (some ⟨b_q0, 0, none⟩))]) ⟨rfl, rfl, trivial⟩ ?_
  unfold raster_Sum_c1 at hm
  refine WK_seq ?_
  refine WK_region ?_
  refine WO_pure tbok 1 [(0, .slice a_p0 p0.length c_p0), (1, .pointer (some ⟨b_q0, 0, none⟩)), (3, .bool false)] rfl ⟨rfl, rfl, rfl, trivial⟩ ?_
  refine WO_end ?_
  refine WK_seq ?_
  refine WK_region ?_
  refine WO_pure tbok 2 [(1, .pointer (some ⟨b_q0, 0, none⟩)), (3, .bool false), (5, .int .i64 (p0.length : Int))] rfl ⟨rfl, rfl, rfl, trivial⟩ ?_
  refine WO_loadM tbok rfl rfl rfl rfl (fun _ h => St.sat h) hb_q0 rfl ?_
  obtain ⟨v_1, hy1, hm⟩ := bind_some hm
  obtain ⟨hc2, hy1⟩ := ix_some hy1
  refine WO_index tbok rfl rfl rfl rfl rfl rfl rfl rfl (SlR.addr h_q0_0) hc2 ?_
  refine WO_loadR tbok rfl rfl rfl rfl (fun _ h => St.sat h) h_q0_0 hy1 rfl rfl (fun a3 c4 h5 => ?_)
  refine WO_pure tbok 3 [(3, .bool ((p0.length : Int) != ((v_1).length : Int)))] rfl ⟨rfl, trivial⟩ ?_
  refine WO_end ?_
  cases hm
  exact WK_ret (ret_out (L := []) (RLc_tmp rfl RLc_nil) (List.nil_sublist _) rfl)
theorem raster_Sum_walk {m : Mu} {p0 : List (List Int)} {p1 : Int} {p2 : Int} {p3 : Int} {p4 : Int} {a_p0 : Option Addr} {q_p0 c_p0 : Nat} (h_p0 : SlR (RowE (FE (I1 .i64)) 1) 1 m (.slice a_p0 q_p0 c_p0) p0) {r : Int × Int} (hm : raster_Sum p0 p1 p2 p3 p4 = some r) :
    Go.E.Spec Try.prog 80 [.slice a_p0 q_p0 c_p0, .int .i64 p1, .int .i64 p2, .int .i64 p3, .int .i64 p4] m (fun v _ _ => v = .tuple #[.int .i64 r.1, .int .i64 r.2]) := by
  refine Spec_enter Try.func80 rfl rfl rfl (fun w0 => ?_)
  refine WK.sub (e' := [(0, .slice a_p0 q_p0 c_p0), (1, .int .i64 p1), (2, .int .i64 p2), (3, .int .i64 p3), (4, .int .i64 p4)]) ⟨rfl, rfl, rfl, rfl, rfl, trivial⟩ ?_
  obtain rfl := SlR.qlen h_p0
  refine WK.sub (e' := [(0, .slice a_p0 p0.length c_p0), (1, .int .i64 p1), (2, .int .i64 p2), (3, .int .i64 p3), (4, .int .i64 p4)]) ⟨rfl, rfl, rfl, rfl, rfl, trivial⟩ ?_
  unfold raster_Sum at hm
  refine WK_seq ?_
  refine WK_region ?_
  refine WO_box [.slice a_p0 p0.length c_p0] rfl rfl trivial rfl rfl rfl (fun b1 => ?_)
  refine WO.cls (C' := St w0 m m [[⟨b1, 39, [.slice a_p0 p0.length c_p0]⟩]]) (fun _ h => h) ?_
  refine WO_pure tbok 2 [(1, .int .i64 p1), (2, .int .i64 p2), (3, .int .i64 p3), (4, .int .i64 p4), (5, .pointer (some ⟨b1, 0, none⟩)), (10, .int .i64 0), (11, .int .i64 0)] rfl ⟨rfl, rfl, rfl, rfl, rfl, rfl, rfl, trivial⟩ ?_
  refine WO_end ?_
  refine WK_seq ?_
  refine WK_seq ?_
  obtain ⟨s_1, hx2, hm⟩ := bind_some hm
  refine WK_meet [(1, .int .i64 p1), (2, .int .i64 p2), (3, .int .i64 p3), (4, .int .i64 p4), (5, .pointer (some ⟨b1, 0, none⟩)), (10, .int .i64 0), (11, .int .i64 0), (28, .bool s_1)] (St w0 m m [[⟨b1, 39, [.slice a_p0 p0.length c_p0]⟩]]) ?_ (fun hk3 => ?_)
  · refine WK_cond (b := s_1) rfl (fun hb4 => ?_) (fun hb4 => ?_)
    · have hm := ifT hb4 hm
      refine WK_seq ?_
      refine WK_region ?_
      refine WO_pure tbok 2 [(1, .int .i64 p1), (2, .int .i64 p2), (3, .int .i64 p3), (4, .int .i64 p4), (5, .pointer (some ⟨b1, 0, none⟩)), (10, .int .i64 0), (11, .int .i64 1)] rfl ⟨rfl, rfl, rfl, rfl, rfl, rfl, rfl, trivial⟩ ?_
      refine WO_end ?_
      cases hm
      exact WK_ret (ret_out (L := []) (RLc_tmp rfl (RLc_tmp rfl RLc_nil)) (List.nil_sublist _) rfl)
    · have hm := ifF hb4 hm
      refine WK_skip ?_
      refine WK_seq ?_
      refine WK_draw 10 [0, 1, 2, 3, 4, 5, 6, 7, 8, 9] follows_ok (by kernel_rfl) St_closed ?_
      refine WO_loadB tbok 0 rfl rfl rfl rfl (fun _ h => h) rfl rfl ?_
      obtain ⟨v_2, hy5, hm⟩ := bind_some hm
      obtain ⟨hc6, hy5⟩ := ix_some hy5
      refine WO_index tbok rfl rfl rfl rfl rfl rfl rfl rfl (SlR.addr h_p0) hc6 ?_
      refine WO_loadR tbok rfl rfl rfl rfl (fun _ h => St.sat h) h_p0 hy5 rfl rfl (fun a7 c8 h9 => ?_)
      refine WO_pure tbok 2 [(1, .int .i64 p1), (2, .int .i64 p2), (3, .int .i64 p3), (4, .int .i64 p4), (5, .pointer (some ⟨b1, 0, none⟩)), (10, .int .i64 0), (11, .int .i64 0), (33, .int .i64 (w64 (((v_2).length : Int) - 1)))] rfl ⟨rfl, rfl, rfl, rfl, rfl, rfl, rfl, rfl, trivial⟩ ?_
      refine WO_loadB tbok 0 rfl rfl rfl rfl (fun _ h => h) rfl rfl ?_
      refine WO_pure tbok 4 [(1, .int .i64 p1), (2, .int .i64 p2), (3, .int .i64 p3), (4, .int .i64 p4), (5, .pointer (some ⟨b1, 0, none⟩)), (10, .int .i64 0), (11, .int .i64 0), (12, .int .i64 (w64 (((v_2).length : Int) - 1))), (13, .int .i64 (w64 ((p0.length : Int) - 1)))] rfl ⟨rfl, rfl, rfl, rfl, rfl, rfl, rfl, rfl, rfl, trivial⟩ ?_
      refine WO_tail ?_
      refine WO_end ?_
      refine WK_seq ?_
      refine WK_seq ?_
      obtain ⟨s_3, hx10, hm⟩ := bind_some hm
      refine WK_meet [(1, .int .i64 p1), (2, .int .i64 p2), (3, .int .i64 p3), (4, .int .i64 p4), (5, .pointer (some ⟨b1, 0, none⟩)), (10, .int .i64 0), (11, .int .i64 0), (66, .bool s_3)] (St w0 m m [[⟨b1, 39, [.slice a_p0 p0.length c_p0]⟩]]) ?_ (fun hk11 => ?_)
      · refine WK_cond (b := s_3) rfl (fun hb12 => ?_) (fun hb12 => ?_)
        · have hm := ifT hb12 hm
          refine WK_seq ?_
          refine WK_region ?_
          refine WO_pure tbok 2 [(1, .int .i64 p1), (2, .int .i64 p2), (3, .int .i64 p3), (4, .int .i64 p4), (5, .pointer (some ⟨b1, 0, none⟩)), (10, .int .i64 0), (11, .int .i64 2)] rfl ⟨rfl, rfl, rfl, rfl, rfl, rfl, rfl, trivial⟩ ?_
          refine WO_end ?_
          cases hm
          exact WK_ret (ret_out (L := []) (RLc_tmp rfl (RLc_tmp rfl RLc_nil)) (List.nil_sublist _) rfl)
        · have hm := ifF hb12 hm
          refine WK_skip ?_
          refine WK_seq ?_
          refine WK_draw 41 [0, 1, 2, 3, 4, 5, 6, 7, 8, 9, 10, 11, 12, 13, 14, 15, 16, 17, 18, 19, 20, 21, 22, 23, 24, 25, 26, 27, 28, 29, 30, 31, 32, 33, 34, 35, 36, 37, 38, 39, 40] follows_ok (by kernel_rfl) St_closed ?_
          refine WO_loadB tbok 0 rfl rfl rfl rfl (fun _ h => h) rfl rfl ?_
          refine WO_pure tbok 3 [(1, .int .i64 p1), (2, .int .i64 p2), (3, .int .i64 p3), (4, .int .i64 p4), (5, .pointer (some ⟨b1, 0, none⟩)), (10, .int .i64 0), (11, .int .i64 0), (67, .slice a_p0 p0.length c_p0), (70, .int .i64 (w64 (p2 + p4)))] rfl ⟨rfl, rfl, rfl, rfl, rfl, rfl, rfl, rfl, rfl, trivial⟩ ?_
          obtain ⟨v_4, hy13, hm⟩ := bind_some hm
          obtain ⟨hc14, hy13⟩ := ix_some hy13
          refine WO_index tbok rfl rfl rfl rfl rfl rfl rfl rfl (SlR.addr h_p0) hc14 ?_
          refine WO_loadR tbok rfl rfl rfl rfl (fun _ h => St.sat h) h_p0 hy13 rfl rfl (fun a15 c16 h17 => ?_)
          refine WO_pure tbok 3 [(1, .int .i64 p1), (2, .int .i64 p2), (3, .int .i64 p3), (4, .int .i64 p4), (5, .pointer (some ⟨b1, 0, none⟩)), (10, .int .i64 0), (11, .int .i64 0), (72, .slice a15 ((v_4).length) c16), (75, .int .i64 (w64 (p1 + p3)))] rfl ⟨rfl, rfl, rfl, rfl, rfl, rfl, rfl, rfl, rfl, trivial⟩ ?_
          obtain ⟨v_5, hy18, hm⟩ := bind_some hm
          obtain ⟨hc19, hy18⟩ := ix_some hy18
          refine WO_index tbok rfl rfl rfl rfl rfl rfl rfl rfl (SlR.addr h17) hc19 ?_
          refine WO_loadE tbok rfl rfl rfl rfl (fun _ h => St.sat h) h17 hy18 rfl ?_
          refine WO_loadB tbok 0 rfl rfl rfl rfl (fun _ h => h) rfl rfl ?_
          refine WO_pure tbok 1 [(1, .int .i64 p1), (2, .int .i64 p2), (3, .int .i64 p3), (4, .int .i64 p4), (5, .pointer (some ⟨b1, 0, none⟩)), (10, .int .i64 0), (11, .int .i64 0), (77, .int .i64 v_5), (78, .slice a_p0 p0.length c_p0), (79, .int .i64 p2)] rfl ⟨rfl, rfl, rfl, rfl, rfl, rfl, rfl, rfl, rfl, rfl, trivial⟩ ?_
          obtain ⟨v_6, hy20, hm⟩ := bind_some hm
          obtain ⟨hc21, hy20⟩ := ix_some hy20
          refine WO_index tbok rfl rfl rfl rfl rfl rfl rfl rfl (SlR.addr h_p0) hc21 ?_
          refine WO_loadR tbok rfl rfl rfl rfl (fun _ h => St.sat h) h_p0 hy20 rfl rfl (fun a22 c23 h24 => ?_)
          refine WO_pure tbok 3 [(1, .int .i64 p1), (2, .int .i64 p2), (4, .int .i64 p4), (5, .pointer (some ⟨b1, 0, none⟩)), (10, .int .i64 0), (11, .int .i64 0), (77, .int .i64 v_5), (81, .slice a22 ((v_6).length) c23), (84, .int .i64 (w64 (p1 + p3)))] rfl ⟨rfl, rfl, rfl, rfl, rfl, rfl, rfl, rfl, rfl, trivial⟩ ?_
          obtain ⟨v_7, hy25, hm⟩ := bind_some hm
          obtain ⟨hc26, hy25⟩ := ix_some hy25
          refine WO_index tbok rfl rfl rfl rfl rfl rfl rfl rfl (SlR.addr h24) hc26 ?_
          refine WO_loadE tbok rfl rfl rfl rfl (fun _ h => St.sat h) h24 hy25 rfl ?_
          refine WO_pure tbok 1 [(1, .int .i64 p1), (2, .int .i64 p2), (4, .int .i64 p4), (5, .pointer (some ⟨b1, 0, none⟩)), (10, .int .i64 0), (11, .int .i64 0), (87, .int .i64 (w64 (v_5 - v_7)))] rfl ⟨rfl, rfl, rfl, rfl, rfl, rfl, rfl, trivial⟩ ?_
          refine WO_loadB tbok 0 rfl rfl rfl rfl (fun _ h => h) rfl rfl ?_
          refine WO_pure tbok 3 [(1, .int .i64 p1), (2, .int .i64 p2), (5, .pointer (some ⟨b1, 0, none⟩)), (10, .int .i64 0), (11, .int .i64 0), (87, .int .i64 (w64 (v_5 - v_7))), (88, .slice a_p0 p0.length c_p0), (91, .int .i64 (w64 (p2 + p4)))] rfl ⟨rfl, rfl, rfl, rfl, rfl, rfl, rfl, rfl, trivial⟩ ?_
          obtain ⟨v_8, hy27, hm⟩ := bind_some hm
          obtain ⟨hc28, hy27⟩ := ix_some hy27
          refine WO_index tbok rfl rfl rfl rfl rfl rfl rfl rfl (SlR.addr h_p0) hc28 ?_
          refine WO_loadR tbok rfl rfl rfl rfl (fun _ h => St.sat h) h_p0 hy27 rfl rfl (fun a29 c30 h31 => ?_)
          refine WO_pure tbok 1 [(1, .int .i64 p1), (2, .int .i64 p2), (5, .pointer (some ⟨b1, 0, none⟩)), (10, .int .i64 0), (11, .int .i64 0), (87, .int .i64 (w64 (v_5 - v_7))), (93, .slice a29 ((v_8).length) c30), (94, .int .i64 p1)] rfl ⟨rfl, rfl, rfl, rfl, rfl, rfl, rfl, rfl, trivial⟩ ?_
          obtain ⟨v_9, hy32, hm⟩ := bind_some hm
          obtain ⟨hc33, hy32⟩ := ix_some hy32
          refine WO_index tbok rfl rfl rfl rfl rfl rfl rfl rfl (SlR.addr h31) hc33 ?_
          refine WO_loadE tbok rfl rfl rfl rfl (fun _ h => St.sat h) h31 hy32 rfl ?_
          refine WO_pure tbok 1 [(1, .int .i64 p1), (2, .int .i64 p2), (5, .pointer (some ⟨b1, 0, none⟩)), (10, .int .i64 0), (11, .int .i64 0), (97, .int .i64 (w64 ((w64 (v_5 - v_7)) - v_9)))] rfl ⟨rfl, rfl, rfl, rfl, rfl, rfl, trivial⟩ ?_
          refine WO_loadB tbok 0 rfl rfl rfl rfl (fun _ h => h) rfl rfl ?_
          refine WO_pure tbok 1 [(1, .int .i64 p1), (10, .int .i64 0), (11, .int .i64 0), (97, .int .i64 (w64 ((w64 (v_5 - v_7)) - v_9))), (98, .slice a_p0 p0.length c_p0), (99, .int .i64 p2)] rfl ⟨rfl, rfl, rfl, rfl, rfl, rfl, trivial⟩ ?_
          obtain ⟨v_10, hy34, hm⟩ := bind_some hm
          obtain ⟨hc35, hy34⟩ := ix_some hy34
          refine WO_index tbok rfl rfl rfl rfl rfl rfl rfl rfl (SlR.addr h_p0) hc35 ?_
          refine WO_loadR tbok rfl rfl rfl rfl (fun _ h => St.sat h) h_p0 hy34 rfl rfl (fun a36 c37 h38 => ?_)
          refine WO_pure tbok 1 [(10, .int .i64 0), (11, .int .i64 0), (97, .int .i64 (w64 ((w64 (v_5 - v_7)) - v_9))), (101, .slice a36 ((v_10).length) c37), (102, .int .i64 p1)] rfl ⟨rfl, rfl, rfl, rfl, rfl, trivial⟩ ?_
          obtain ⟨v_11, hy39, hm⟩ := bind_some hm
          obtain ⟨hc40, hy39⟩ := ix_some hy39
          refine WO_index tbok rfl rfl rfl rfl rfl rfl rfl rfl (SlR.addr h38) hc40 ?_
          refine WO_loadE tbok rfl rfl rfl rfl (fun _ h => St.sat h) h38 hy39 rfl ?_
          refine WO_pure tbok 3 [(10, .int .i64 (w64 ((w64 ((w64 (v_5 - v_7)) - v_9)) + v_11))), (11, .int .i64 0)] rfl ⟨rfl, rfl, trivial⟩ ?_
          refine WO_tail ?_
          refine WO_end ?_
          cases hm
          exact WK_ret (ret_out (L := []) (RLc_tmp rfl (RLc_tmp rfl RLc_nil)) (List.nil_sublist _) rfl)
      · refine WK_region ?_
        refine WO_pure tbok 7 [(1, .int .i64 p1), (2, .int .i64 p2), (3, .int .i64 p3), (4, .int .i64 p4), (5, .pointer (some ⟨b1, 0, none⟩)), (10, .int .i64 0), (11, .int .i64 0), (12, .int .i64 (w64 (((v_2).length : Int) - 1))), (13, .int .i64 (w64 ((p0.length : Int) - 1))), (43, .bool (decide ((if p4 < (if p3 < (if p2 < p1 then p2 else p1) then p3 else (if p2 < p1 then p2 else p1)) then p4 else (if p3 < (if p2 < p1 then p2 else p1) then p3 else (if p2 < p1 then p2 else p1))) < 0)))] rfl ⟨rfl, rfl, rfl, rfl, rfl, rfl, rfl, rfl, rfl, rfl, trivial⟩ ?_
        refine WO_split (d := 43) (b := decide ((if p4 < (if p3 < (if p2 < p1 then p2 else p1) then p3 else (if p2 < p1 then p2 else p1)) then p4 else (if p3 < (if p2 < p1 then p2 else p1) then p3 else (if p2 < p1 then p2 else p1))) < 0)) rfl (fun hb41 => ?_) (fun hb41 => ?_)
        · have hx10 := ifT hb41 hx10
          refine WO_pure tbok 23 [(1, .int .i64 p1), (2, .int .i64 p2), (3, .int .i64 p3), (4, .int .i64 p4), (5, .pointer (some ⟨b1, 0, none⟩)), (10, .int .i64 0), (11, .int .i64 0), (66, .bool true)] rfl ⟨rfl, rfl, rfl, rfl, rfl, rfl, rfl, rfl, trivial⟩ ?_
          refine WO_end ?_
          cases hx10
          refine WK.sub ?_ (WK.cls (fun _ h => h) hk11)
          exact ⟨rfl, rfl, rfl, rfl, rfl, rfl, rfl, rfl, trivial⟩
        · have hx10 := ifF hb41 hx10
          refine WO_pure tbok 5 [(1, .int .i64 p1), (2, .int .i64 p2), (3, .int .i64 p3), (4, .int .i64 p4), (5, .pointer (some ⟨b1, 0, none⟩)), (10, .int .i64 0), (11, .int .i64 0), (12, .int .i64 (w64 (((v_2).length : Int) - 1))), (13, .int .i64 (w64 ((p0.length : Int) - 1))), (48, .bool (decide ((w64 (((v_2).length : Int) - 1)) < p1)))] rfl ⟨rfl, rfl, rfl, rfl, rfl, rfl, rfl, rfl, rfl, rfl, trivial⟩ ?_
          refine WO_split (d := 48) (b := decide ((w64 (((v_2).length : Int) - 1)) < p1)) rfl (fun hb42 => ?_) (fun hb42 => ?_)
          · have hx10 := ifT hb42 hx10
            refine WO_pure tbok 18 [(1, .int .i64 p1), (2, .int .i64 p2), (3, .int .i64 p3), (4, .int .i64 p4), (5, .pointer (some ⟨b1, 0, none⟩)), (10, .int .i64 0), (11, .int .i64 0), (66, .bool true)] rfl ⟨rfl, rfl, rfl, rfl, rfl, rfl, rfl, rfl, trivial⟩ ?_
            refine WO_end ?_
            cases hx10
            refine WK.sub ?_ (WK.cls (fun _ h => h) hk11)
            exact ⟨rfl, rfl, rfl, rfl, rfl, rfl, rfl, rfl, trivial⟩
          · have hx10 := ifF hb42 hx10
            refine WO_pure tbok 5 [(1, .int .i64 p1), (2, .int .i64 p2), (3, .int .i64 p3), (4, .int .i64 p4), (5, .pointer (some ⟨b1, 0, none⟩)), (10, .int .i64 0), (11, .int .i64 0), (12, .int .i64 (w64 (((v_2).length : Int) - 1))), (13, .int .i64 (w64 ((p0.length : Int) - 1))), (53, .bool (decide ((w64 ((p0.length : Int) - 1)) < p2)))] rfl ⟨rfl, rfl, rfl, rfl, rfl, rfl, rfl, rfl, rfl, rfl, trivial⟩ ?_
            refine WO_split (d := 53) (b := decide ((w64 ((p0.length : Int) - 1)) < p2)) rfl (fun hb43 => ?_) (fun hb43 => ?_)
            · have hx10 := ifT hb43 hx10
              refine WO_pure tbok 13 [(1, .int .i64 p1), (2, .int .i64 p2), (3, .int .i64 p3), (4, .int .i64 p4), (5, .pointer (some ⟨b1, 0, none⟩)), (10, .int .i64 0), (11, .int .i64 0), (66, .bool true)] rfl ⟨rfl, rfl, rfl, rfl, rfl, rfl, rfl, rfl, trivial⟩ ?_
              refine WO_end ?_
              cases hx10
              refine WK.sub ?_ (WK.cls (fun _ h => h) hk11)
              exact ⟨rfl, rfl, rfl, rfl, rfl, rfl, rfl, rfl, trivial⟩
            · have hx10 := ifF hb43 hx10
              refine WO_pure tbok 7 [(1, .int .i64 p1), (2, .int .i64 p2), (3, .int .i64 p3), (4, .int .i64 p4), (5, .pointer (some ⟨b1, 0, none⟩)), (10, .int .i64 0), (11, .int .i64 0), (13, .int .i64 (w64 ((p0.length : Int) - 1))), (60, .bool (decide ((w64 ((w64 (((v_2).length : Int) - 1)) - p1)) < p3)))] rfl ⟨rfl, rfl, rfl, rfl, rfl, rfl, rfl, rfl, rfl, trivial⟩ ?_
              refine WO_split (d := 60) (b := decide ((w64 ((w64 (((v_2).length : Int) - 1)) - p1)) < p3)) rfl (fun hb44 => ?_) (fun hb44 => ?_)
              · have hx10 := ifT hb44 hx10
                refine WO_pure tbok 6 [(1, .int .i64 p1), (2, .int .i64 p2), (3, .int .i64 p3), (4, .int .i64 p4), (5, .pointer (some ⟨b1, 0, none⟩)), (10, .int .i64 0), (11, .int .i64 0), (66, .bool true)] rfl ⟨rfl, rfl, rfl, rfl, rfl, rfl, rfl, rfl, trivial⟩ ?_
                refine WO_end ?_
                cases hx10
                refine WK.sub ?_ (WK.cls (fun _ h => h) hk11)
                exact ⟨rfl, rfl, rfl, rfl, rfl, rfl, rfl, rfl, trivial⟩
              · have hx10 := ifF hb44 hx10
                refine WO_pure tbok 6 [(1, .int .i64 p1), (2, .int .i64 p2), (3, .int .i64 p3), (4, .int .i64 p4), (5, .pointer (some ⟨b1, 0, none⟩)), (10, .int .i64 0), (11, .int .i64 0), (66, .bool (decide ((w64 ((w64 ((p0.length : Int) - 1)) - p2)) < p4)))] rfl ⟨rfl, rfl, rfl, rfl, rfl, rfl, rfl, rfl, trivial⟩ ?_
                refine WO_end ?_
                cases hx10
                refine WK.sub ?_ (WK.cls (fun _ h => h) hk11)
                exact ⟨rfl, rfl, rfl, rfl, rfl, rfl, rfl, rfl, trivial⟩
  · refine WK_region ?_
    refine WO_loadB tbok 0 rfl rfl rfl rfl (fun _ h => h) rfl rfl ?_
    refine WO_pure tbok 3 [(1, .int .i64 p1), (2, .int .i64 p2), (3, .int .i64 p3), (4, .int .i64 p4), (5, .pointer (some ⟨b1, 0, none⟩)), (10, .int .i64 0), (11, .int .i64 0), (17, .bool ((p0.length : Int) == 0))] rfl ⟨rfl, rfl, rfl, rfl, rfl, rfl, rfl, rfl, trivial⟩ ?_
    refine WO_split (d := 17) (b := (p0.length : Int) == 0) rfl (fun hb45 => ?_) (fun hb45 => ?_)
    · have hx2 := ifT hb45 hx2
      refine WO_pure tbok 9 [(1, .int .i64 p1), (2, .int .i64 p2), (3, .int .i64 p3), (4, .int .i64 p4), (5, .pointer (some ⟨b1, 0, none⟩)), (10, .int .i64 0), (11, .int .i64 0), (24, .bool true)] rfl ⟨rfl, rfl, rfl, rfl, rfl, rfl, rfl, rfl, trivial⟩ ?_
      refine WO_skip rfl rfl ?_
      refine WO_pure tbok 1 [(1, .int .i64 p1), (2, .int .i64 p2), (3, .int .i64 p3), (4, .int .i64 p4), (5, .pointer (some ⟨b1, 0, none⟩)), (10, .int .i64 0), (11, .int .i64 0), (28, .bool true)] rfl ⟨rfl, rfl, rfl, rfl, rfl, rfl, rfl, rfl, trivial⟩ ?_
      refine WO_end ?_
      cases hx2
      refine WK.sub ?_ (WK.cls (fun _ h => h) hk3)
      exact ⟨rfl, rfl, rfl, rfl, rfl, rfl, rfl, rfl, trivial⟩
    · have hx2 := ifF hb45 hx2
      refine WO_loadB tbok 0 rfl rfl rfl rfl (fun _ h => h) rfl rfl ?_
      obtain ⟨v_12, hy46, hx2⟩ := bind_some hx2
      obtain ⟨hc47, hy46⟩ := ix_some hy46
      refine WO_index tbok rfl rfl rfl rfl rfl rfl rfl rfl (SlR.addr h_p0) hc47 ?_
      refine WO_loadR tbok rfl rfl rfl rfl (fun _ h => St.sat h) h_p0 hy46 rfl rfl (fun a48 c49 h50 => ?_)
      refine WO_pure tbok 4 [(1, .int .i64 p1), (2, .int .i64 p2), (3, .int .i64 p3), (4, .int .i64 p4), (5, .pointer (some ⟨b1, 0, none⟩)), (10, .int .i64 0), (11, .int .i64 0), (24, .bool (((v_12).length : Int) == 0))] rfl ⟨rfl, rfl, rfl, rfl, rfl, rfl, rfl, rfl, trivial⟩ ?_
      refine WO_split (d := 24) (b := ((v_12).length : Int) == 0) rfl (fun hb51 => ?_) (fun hb51 => ?_)
      · have hx2 := ifT hb51 hx2
        refine WO_pure tbok 2 [(1, .int .i64 p1), (2, .int .i64 p2), (3, .int .i64 p3), (4, .int .i64 p4), (5, .pointer (some ⟨b1, 0, none⟩)), (10, .int .i64 0), (11, .int .i64 0), (24, .bool true)] rfl ⟨rfl, rfl, rfl, rfl, rfl, rfl, rfl, rfl, trivial⟩ ?_
        refine WO_skip rfl rfl ?_
        refine WO_pure tbok 1 [(1, .int .i64 p1), (2, .int .i64 p2), (3, .int .i64 p3), (4, .int .i64 p4), (5, .pointer (some ⟨b1, 0, none⟩)), (10, .int .i64 0), (11, .int .i64 0), (28, .bool true)] rfl ⟨rfl, rfl, rfl, rfl, rfl, rfl, rfl, rfl, trivial⟩ ?_
        refine WO_end ?_
        cases hx2
        refine WK.sub ?_ (WK.cls (fun _ h => h) hk3)
        exact ⟨rfl, rfl, rfl, rfl, rfl, rfl, rfl, rfl, trivial⟩
      · have hx2 := ifF hb51 hx2
        refine WO_loadB tbok 0 rfl rfl rfl rfl (fun _ h => h) rfl rfl ?_
        refine WO_pure tbok 1 [(1, .int .i64 p1), (2, .int .i64 p2), (3, .int .i64 p3), (4, .int .i64 p4), (5, .pointer (some ⟨b1, 0, none⟩)), (10, .int .i64 0), (11, .int .i64 0), (24, .bool false), (25, .slice a_p0 p0.length c_p0), (26, .func (.func 86) #[] #[.pointer (some ⟨b1, 0, none⟩)])] rfl ⟨rfl, rfl, rfl, rfl, rfl, rfl, rfl, rfl, rfl, rfl, trivial⟩ ?_
        obtain ⟨y_14, hc53, hx2⟩ := bind_some hx2
        refine WO_call0 (.bool y_14) rfl rfl trivial rfl rfl rfl rfl St_closed ⟨85, #[], #[], rfl, callable_85, fun w hw => ⟨_, hw.satV, slices_ContainsFunc_ssint_walk (h_p0.mono (mono_RowE (mono_FE _) _) hw.leV) (fun m1 hm1 _ _ _ z_13 h52 _ h => specV_cap callable_86 (raster_Sum_c1_walk h52 (hm1 _ _ (hw.memV (i := 0) rfl (List.mem_singleton.2 rfl))) ((h_p0.mono (mono_RowE (mono_FE _) _) hw.leV).mono (mono_RowE (mono_FE _) _) hm1) h)) hc53⟩⟩ ?_
        refine WO_pure tbok 1 [(1, .int .i64 p1), (2, .int .i64 p2), (3, .int .i64 p3), (4, .int .i64 p4), (5, .pointer (some ⟨b1, 0, none⟩)), (10, .int .i64 0), (11, .int .i64 0), (28, .bool y_14)] rfl ⟨rfl, rfl, rfl, rfl, rfl, rfl, rfl, rfl, trivial⟩ ?_
        refine WO_end ?_
        cases hx2
        refine WK.sub ?_ (WK.cls (fun _ h => h) hk3)
        exact ⟨rfl, rfl, rfl, rfl, rfl, rfl, rfl, rfl, trivial⟩
theorem fiducial_descriptor_image_sum_walk {m : Mu} {p0_0 : Int} {p0_1 : Int} {p0_2 : Int} {p0_3 : List Int} {p0_4 : List (List Int)} {p1 : Int} {p2 : Int} {p3 : Int} {p4 : Int} {a_p0_3 : Option Addr} {q_p0_3 c_p0_3 : Nat} {a_p0_4 : Option Addr} {q_p0_4 c_p0_4 : Nat} (h_p0_3 : SlR (FE (I1 .i64)) 1 m (.slice a_p0_3 q_p0_3 c_p0_3) p0_3) (h_p0_4 : SlR (RowE (FE (I1 .i64)) 1) 1 m (.slice a_p0_4 q_p0_4 c_p0_4) p0_4) {r : Int × Bool} (hm : fiducial_descriptor_image_sum p0_0 p0_1 p0_2 p0_3 p0_4 p1 p2 p3 p4 = some r) :
    Go.E.Spec Try.prog 74 [.agg #[.int .i64 p0_0, .int .i64 p0_1, .int .i64 p0_2, .slice a_p0_3 q_p0_3 c_p0_3, .slice a_p0_4 q_p0_4 c_p0_4], .int .i64 p1, .int .i64 p2, .int .i64 p3, .int .i64 p4] m (fun v _ _ => v = .tuple #[.int .i64 r.1, .bool r.2]) := by
  refine Spec_enter Try.func74 rfl rfl rfl (fun w0 => ?_)
  refine WK.sub (e' := [(0, .agg #[.int .i64 p0_0, .int .i64 p0_1, .int .i64 p0_2, .slice a_p0_3 q_p0_3 c_p0_3, .slice a_p0_4 q_p0_4 c_p0_4]), (1, .int .i64 p1), (2, .int .i64 p2), (3, .int .i64 p3), (4, .int .i64 p4)]) ⟨rfl, rfl, rfl, rfl, rfl, trivial⟩ ?_
  obtain rfl := SlR.qlen h_p0_3
  obtain rfl := SlR.qlen h_p0_4
  refine WK.sub (e' := [(0, .agg #[.int .i64 p0_0, .int .i64 p0_1, .int .i64 p0_2, .slice a_p0_3 p0_3.length c_p0_3, .slice a_p0_4 p0_4.length c_p0_4]), (1, .int .i64 p1), (2, .int .i64 p2), (3, .int .i64 p3), (4, .int .i64 p4)]) ⟨rfl, rfl, rfl, rfl, rfl, trivial⟩ ?_
  unfold fiducial_descriptor_image_sum at hm
  refine WK_seq ?_
  refine WK_region ?_
  refine WO_box [.int .i64 p0_0, .int .i64 p0_1, .int .i64 p0_2, .slice a_p0_3 p0_3.length c_p0_3, .slice a_p0_4 p0_4.length c_p0_4] rfl rfl trivial rfl rfl rfl (fun b1 => ?_)
  refine WO.cls (C' := St w0 m m [[⟨b1, 101, [.int .i64 p0_0, .int .i64 p0_1, .int .i64 p0_2, .slice a_p0_3 p0_3.length c_p0_3, .slice a_p0_4 p0_4.length c_p0_4]⟩]]) (fun _ h => h) ?_
  refine WO_pure tbok 2 [(1, .int .i64 p1), (2, .int .i64 p2), (3, .int .i64 p3), (4, .int .i64 p4), (5, .pointer (some ⟨b1, 0, none⟩)), (10, .int .i64 0), (11, .bool false)] rfl ⟨rfl, rfl, rfl, rfl, rfl, rfl, rfl, trivial⟩ ?_
  refine WO_end ?_
  refine WK_seq ?_
  refine WK_region ?_
  refine WO_pure tbok 1 [(1, .int .i64 p1), (2, .int .i64 p2), (3, .int .i64 p3), (4, .int .i64 p4), (10, .int .i64 0), (11, .bool false), (15, .pointer (some ⟨b1, 4, none⟩))] rfl ⟨rfl, rfl, rfl, rfl, rfl, rfl, rfl, trivial⟩ ?_
  refine WO_loadB tbok 0 rfl rfl rfl rfl (fun _ h => h) rfl rfl ?_
  refine WO_pure tbok 4 [(10, .int .i64 0), (11, .bool false), (16, .slice a_p0_4 p0_4.length c_p0_4), (17, .int .i64 p1), (18, .int .i64 p2), (19, .int .i64 p3), (20, .int .i64 p4)] rfl ⟨rfl, rfl, rfl, rfl, rfl, rfl, rfl, trivial⟩ ?_
  obtain ⟨⟨y_1, y_2⟩, hc2, hm⟩ := bind_some hm
  refine WO_call0 (.tuple #[.int .i64 y_1, .int .i64 y_2]) rfl rfl trivial rfl rfl rfl rfl St_closed ⟨80, #[], #[], rfl, callable_80, fun w hw => ⟨_, hw.sat, raster_Sum_walk h_p0_4 hc2⟩⟩ ?_
  refine WO_pure tbok 5 [(10, .int .i64 0), (11, .bool false), (12, .int .i64 y_1), (13, .int .i64 y_2)] rfl ⟨rfl, rfl, rfl, rfl, trivial⟩ ?_
  refine WO_end ?_
  refine WK_seq ?_
  refine WK_region ?_
  refine WO_pure tbok 5 [(10, .int .i64 y_1), (11, .bool (y_2 == 0))] rfl ⟨rfl, rfl, trivial⟩ ?_
  refine WO_end ?_
  cases hm
  exact WK_ret (ret_out (L := []) (RLc_tmp rfl (RLc_tmp rfl RLc_nil)) (List.nil_sublist _) rfl)
theorem fiducial_descriptor_image_word_walk {m : Mu} {p0_0 : Int} {p0_1 : Int} {p0_2 : Int} {p0_3 : List Int} {p0_4 : List (List Int)} {p1 : List (Int × Int × Int × Int × Int × Int × Int × Int)} {p2 : Int} {p3 : Int} {a_p0_3 : Option Addr} {q_p0_3 c_p0_3 : Nat} {a_p0_4 : Option Addr} {q_p0_4 c_p0_4 : Nat} {a_p1 : Option Addr} {q_p1 c_p1 : Nat} (h_p0_3 : SlR (FE (I1 .i64)) 1 m (.slice a_p0_3 q_p0_3 c_p0_3) p0_3) (h_p0_4 : SlR (RowE (FE (I1 .i64)) 1) 1 m (.slice a_p0_4 q_p0_4 c_p0_4) p0_4) (h_p1 : SlR (FE T8) 8 m (.slice a_p1 q_p1 c_p1) p1) {r : Int × Bool} (hm : fiducial_descriptor_image_word p0_0 p0_1 p0_2 p0_3 p0_4 p1 p2 p3 = some r) :
    Go.E.Spec Try.prog 55 [.agg #[.int .i64 p0_0, .int .i64 p0_1, .int .i64 p0_2, .slice a_p0_3 q_p0_3 c_p0_3, .slice a_p0_4 q_p0_4 c_p0_4], .slice a_p1 q_p1 c_p1, .int .i64 p2, .int .i64 p3] m (fun v _ _ => v = .tuple #[.int .u64 r.1, .bool r.2]) := by
  refine Spec_enter Try.func55 rfl rfl rfl (fun w0 => ?_)
  refine WK.sub (e' := [(0, .agg #[.int .i64 p0_0, .int .i64 p0_1, .int .i64 p0_2, .slice a_p0_3 q_p0_3 c_p0_3, .slice a_p0_4 q_p0_4 c_p0_4]), (1, .slice a_p1 q_p1 c_p1), (2, .int .i64 p2), (3, .int .i64 p3)]) ⟨rfl, rfl, rfl, rfl, trivial⟩ ?_
  obtain rfl := SlR.qlen h_p0_3
  obtain rfl := SlR.qlen h_p0_4
  obtain rfl := SlR.qlen h_p1
  refine WK.sub (e' := [(0, .agg #[.int .i64 p0_0, .int .i64 p0_1, .int .i64 p0_2, .slice a_p0_3 p0_3.length c_p0_3, .slice a_p0_4 p0_4.length c_p0_4]), (1, .slice a_p1 p1.length c_p1), (2, .int .i64 p2), (3, .int .i64 p3)]) ⟨rfl, rfl, rfl, rfl, trivial⟩ ?_
  unfold fiducial_descriptor_image_word at hm
  refine WK_seq ?_
  refine WK_region ?_
  refine WO_box [.int .i64 p0_0, .int .i64 p0_1, .int .i64 p0_2, .slice a_p0_3 p0_3.length c_p0_3, .slice a_p0_4 p0_4.length c_p0_4] rfl rfl trivial rfl rfl rfl (fun b1 => ?_)
  refine WO.cls (C' := St w0 m m [[⟨b1, 101, [.int .i64 p0_0, .int .i64 p0_1, .int .i64 p0_2, .slice a_p0_3 p0_3.length c_p0_3, .slice a_p0_4 p0_4.length c_p0_4]⟩]]) (fun _ h => h) ?_
  refine WO_pure tbok 2 [(1, .slice a_p1 p1.length c_p1), (2, .int .i64 p2), (3, .int .i64 p3), (4, .pointer (some ⟨b1, 0, none⟩)), (8, .int .u64 0), (9, .bool false)] rfl ⟨rfl, rfl, rfl, rfl, rfl, rfl, trivial⟩ ?_
  refine WO_end ?_
  refine WK_seq ?_
  refine WK_region ?_
  refine WO_pure tbok 1 [(1, .slice a_p1 p1.length c_p1), (2, .int .i64 p2), (3, .int .i64 p3), (4, .pointer (some ⟨b1, 0, none⟩)), (8, .int .u64 0), (9, .bool false), (10, .int .u64 0)] rfl ⟨rfl, rfl, rfl, rfl, rfl, rfl, rfl, trivial⟩ ?_
  refine WO_end ?_
  refine WK_seq ?_
  refine WK_seq ?_
  refine WK_region ?_
  refine WO_pure tbok 3 [(2, .int .i64 p2), (3, .int .i64 p3), (4, .pointer (some ⟨b1, 0, none⟩)), (8, .int .u64 0), (9, .bool false), (10, .int .u64 0), (17, .slice a_p1 p1.length c_p1), (18, .int .i64 (p1.length : Int)), (19, .int .i64 0)] rfl ⟨rfl, rfl, rfl, rfl, rfl, rfl, rfl, rfl, rfl, trivial⟩ ?_
  refine WO_end ?_
  obtain ⟨x2, hx3, hm⟩ := bind_some hm
  refine WK_join (β := Int × Unit) (fun p => Sum.inr p.1 = x2) (fun p => [(8, .int .u64 0), (9, .bool false), (10, .int .u64 p.1)]) (fun p => St w0 m m [[⟨b1, 101, [.int .i64 p0_0, .int .i64 p0_1, .int .i64 p0_2, .slice a_p0_3 p0_3.length c_p0_3, .slice a_p0_4 p0_4.length c_p0_4]⟩]]) ?_ (fun hk4 => ?_)
  · rintro ⟨s_3, ⟨⟩⟩ hq10
    subst hq10
    refine WK.sub (e' := [(8, .int .u64 0), (9, .bool false), (10, .int .u64 s_3)]) ⟨rfl, rfl, rfl, trivial⟩ (WK.cls (C' := St w0 m m [[⟨b1, 101, [.int .i64 p0_0, .int .i64 p0_1, .int .i64 p0_2, .slice a_p0_3 p0_3.length c_p0_3, .slice a_p0_4 p0_4.length c_p0_4]⟩]]) (fun _ h => h) ?_)
    refine WK_seq ?_
    refine WK_region ?_
    refine WO_pure tbok 3 [(8, .int .u64 s_3), (9, .bool true)] rfl ⟨rfl, rfl, trivial⟩ ?_
    refine WO_end ?_
    cases hm
    exact WK_ret (ret_out (L := []) (RLc_tmp rfl (RLc_tmp rfl RLc_nil)) (List.nil_sublist _) rfl)
  · refine WK_block ?_
    refine WK_loop (S := Int × Int) (G := Unit) (fun s => fiducial_descriptor_image_word_s1 p0_0 p0_1 p0_2 p0_3 p0_4 p1 p2 p3 s.1 s.2) (fun s g => [(2, .int .i64 p2), (3, .int .i64 p3), (4, .pointer (some ⟨b1, 0, none⟩)), (8, .int .u64 0), (9, .bool false), (10, .int .u64 s.1), (17, .slice a_p1 p1.length c_p1), (18, .int .i64 (p1.length : Int)), (19, .int .i64 s.2)]) (fun s g => St w0 m m [[⟨b1, 101, [.int .i64 p0_0, .int .i64 p0_1, .int .i64 p0_2, .slice a_p0_3 p0_3.length c_p0_3, .slice a_p0_4 p0_4.length c_p0_4]⟩]]) (fun s g => True) FUEL (0, 0) () x2 hx3 trivial ⟨rfl, rfl, rfl, rfl, rfl, rfl, rfl, rfl, rfl, trivial⟩ (fun _ h => h) ?_
    rintro ⟨s_1, s_2⟩ ⟨⟩ o6 fl7 hm5 - hn8 hd9
    have hm5 : fiducial_descriptor_image_word_s1 p0_0 p0_1 p0_2 p0_3 p0_4 p1 p2 p3 s_1 s_2 = some o6 := hm5
    unfold fiducial_descriptor_image_word_s1 at hm5
    refine WK.sub (e' := [(2, .int .i64 p2), (3, .int .i64 p3), (4, .pointer (some ⟨b1, 0, none⟩)), (8, .int .u64 0), (9, .bool false), (10, .int .u64 s_1), (17, .slice a_p1 p1.length c_p1), (18, .int .i64 (p1.length : Int)), (19, .int .i64 s_2)]) ⟨rfl, rfl, rfl, rfl, rfl, rfl, rfl, rfl, rfl, trivial⟩ (WK.cls (C' := St w0 m m [[⟨b1, 101, [.int .i64 p0_0, .int .i64 p0_1, .int .i64 p0_2, .slice a_p0_3 p0_3.length c_p0_3, .slice a_p0_4 p0_4.length c_p0_4]⟩]]) (fun _ h => h) ?_)
    refine WK_seq ?_
    refine WK_region ?_
    refine WO_pure tbok 1 [(2, .int .i64 p2), (3, .int .i64 p3), (4, .pointer (some ⟨b1, 0, none⟩)), (8, .int .u64 0), (9, .bool false), (10, .int .u64 s_1), (17, .slice a_p1 p1.length c_p1), (18, .int .i64 (p1.length : Int)), (19, .int .i64 s_2), (20, .bool (decide (s_2 < (p1.length : Int))))] rfl ⟨rfl, rfl, rfl, rfl, rfl, rfl, rfl, rfl, rfl, rfl, trivial⟩ ?_
    refine WO_end ?_
    refine WK_seq ?_
    refine WK_cond (b := decide (s_2 < (p1.length : Int))) rfl (fun hb11 => ?_) (fun hb11 => ?_)
    · have hm5 := ifT hb11 hm5
      refine WK_skip ?_
      refine WK_seq ?_
      refine WK_block ?_
      refine WK_seq ?_
      refine WK_region ?_
      refine WO_pure tbok 1 [(2, .int .i64 p2), (3, .int .i64 p3), (4, .pointer (some ⟨b1, 0, none⟩)), (8, .int .u64 0), (9, .bool false), (10, .int .u64 s_1), (17, .slice a_p1 p1.length c_p1), (18, .int .i64 (p1.length : Int)), (19, .int .i64 s_2), (21, .int .i64 s_2)] rfl ⟨rfl, rfl, rfl, rfl, rfl, rfl, rfl, rfl, rfl, rfl, trivial⟩ ?_
      obtain ⟨v_4, hy12, hm5⟩ := bind_some hm5
      obtain ⟨hc13, hy12⟩ := ix_some hy12
      refine WO_index tbok rfl rfl rfl rfl rfl rfl rfl rfl (SlR.addr h_p1) hc13 ?_
      refine WO_loadE tbok rfl rfl rfl rfl (fun _ h => St.sat h) h_p1 hy12 rfl ?_
      refine WO_alloc tbok [.int .i64 0, .int .i64 0, .int .i64 0, .int .i64 0, .int .i64 0, .int .i64 0, .int .i64 0, .int .i64 0] rfl rfl trivial rfl rfl rfl rfl (fun b14 => ?_)
      refine WO.cls (C' := St w0 m m [[⟨b1, 101, [.int .i64 p0_0, .int .i64 p0_1, .int .i64 p0_2, .slice a_p0_3 p0_3.length c_p0_3, .slice a_p0_4 p0_4.length c_p0_4]⟩], [⟨b14, 94, [.int .i64 0, .int .i64 0, .int .i64 0, .int .i64 0, .int .i64 0, .int .i64 0, .int .i64 0, .int .i64 0]⟩]]) (fun _ h => h) ?_
      refine WO_pure tbok 1 [(2, .int .i64 p2), (3, .int .i64 p3), (4, .pointer (some ⟨b1, 0, none⟩)), (8, .int .u64 0), (9, .bool false), (10, .int .u64 s_1), (11, .int .i64 s_2), (12, .pointer (some ⟨b14, 0, none⟩)), (17, .slice a_p1 p1.length c_p1), (18, .int .i64 (p1.length : Int)), (19, .int .i64 s_2), (23, .agg #[.int .i64 v_4.1, .int .i64 v_4.2.1, .int .i64 v_4.2.2.1, .int .i64 v_4.2.2.2.1, .int .i64 v_4.2.2.2.2.1, .int .i64 v_4.2.2.2.2.2.1, .int .i64 v_4.2.2.2.2.2.2.1, .int .i64 v_4.2.2.2.2.2.2.2])] rfl ⟨rfl, rfl, rfl, rfl, rfl, rfl, rfl, rfl, rfl, rfl, rfl, rfl, trivial⟩ ?_
      refine WO_storeB tbok 1 [.int .i64 v_4.1, .int .i64 v_4.2.1, .int .i64 v_4.2.2.1, .int .i64 v_4.2.2.2.1, .int .i64 v_4.2.2.2.2.1, .int .i64 v_4.2.2.2.2.2.1, .int .i64 v_4.2.2.2.2.2.2.1, .int .i64 v_4.2.2.2.2.2.2.2] rfl rfl rfl rfl rfl rfl rfl ?_
      refine WO.cls (C' := St w0 m m [[⟨b1, 101, [.int .i64 p0_0, .int .i64 p0_1, .int .i64 p0_2, .slice a_p0_3 p0_3.length c_p0_3, .slice a_p0_4 p0_4.length c_p0_4]⟩], [⟨b14, 94, [.int .i64 v_4.1, .int .i64 v_4.2.1, .int .i64 v_4.2.2.1, .int .i64 v_4.2.2.2.1, .int .i64 v_4.2.2.2.2.1, .int .i64 v_4.2.2.2.2.2.1, .int .i64 v_4.2.2.2.2.2.2.1, .int .i64 v_4.2.2.2.2.2.2.2]⟩]]) (fun _ h => h) ?_
      refine WO_end ?_
      refine WK_seq ?_
      refine WK_region ?_
      refine WO_loadB tbok 0 rfl rfl rfl rfl (fun _ h => h) rfl rfl ?_
      refine WO_pure tbok 3 [(2, .int .i64 p2), (3, .int .i64 p3), (4, .pointer (some ⟨b1, 0, none⟩)), (8, .int .u64 0), (9, .bool false), (10, .int .u64 s_1), (11, .int .i64 s_2), (12, .pointer (some ⟨b14, 0, none⟩)), (17, .slice a_p1 p1.length c_p1), (18, .int .i64 (p1.length : Int)), (19, .int .i64 s_2), (25, .agg #[.int .i64 p0_0, .int .i64 p0_1, .int .i64 p0_2, .slice a_p0_3 p0_3.length c_p0_3, .slice a_p0_4 p0_4.length c_p0_4]), (26, .int .i64 p2), (28, .pointer (some ⟨b14, 0, none⟩))] rfl ⟨rfl, rfl, rfl, rfl, rfl, rfl, rfl, rfl, rfl, rfl, rfl, rfl, rfl, rfl, trivial⟩ ?_
      refine WO_loadB tbok 1 rfl rfl rfl rfl (fun _ h => h) rfl rfl ?_
      refine WO_pure tbok 4 [(2, .int .i64 p2), (3, .int .i64 p3), (4, .pointer (some ⟨b1, 0, none⟩)), (8, .int .u64 0), (9, .bool false), (10, .int .u64 s_1), (11, .int .i64 s_2), (12, .pointer (some ⟨b14, 0, none⟩)), (17, .slice a_p1 p1.length c_p1), (18, .int .i64 (p1.length : Int)), (19, .int .i64 s_2), (25, .agg #[.int .i64 p0_0, .int .i64 p0_1, .int .i64 p0_2, .slice a_p0_3 p0_3.length c_p0_3, .slice a_p0_4 p0_4.length c_p0_4]), (30, .int .i64 (w64 (p2 + v_4.1))), (31, .int .i64 p3), (33, .pointer (some ⟨b14, 1, none⟩))] rfl ⟨rfl, rfl, rfl, rfl, rfl, rfl, rfl, rfl, rfl, rfl, rfl, rfl, rfl, rfl, rfl, trivial⟩ ?_
      refine WO_loadB tbok 1 rfl rfl rfl rfl (fun _ h => h) rfl rfl ?_
      refine WO_pure tbok 3 [(2, .int .i64 p2), (3, .int .i64 p3), (4, .pointer (some ⟨b1, 0, none⟩)), (8, .int .u64 0), (9, .bool false), (10, .int .u64 s_1), (11, .int .i64 s_2), (12, .pointer (some ⟨b14, 0, none⟩)), (17, .slice a_p1 p1.length c_p1), (18, .int .i64 (p1.length : Int)), (19, .int .i64 s_2), (25, .agg #[.int .i64 p0_0, .int .i64 p0_1, .int .i64 p0_2, .slice a_p0_3 p0_3.length c_p0_3, .slice a_p0_4 p0_4.length c_p0_4]), (30, .int .i64 (w64 (p2 + v_4.1))), (35, .int .i64 (w64 (p3 + v_4.2.1))), (37, .pointer (some ⟨b14, 2, none⟩))] rfl ⟨rfl, rfl, rfl, rfl, rfl, rfl, rfl, rfl, rfl, rfl, rfl, rfl, rfl, rfl, rfl, trivial⟩ ?_
      refine WO_loadB tbok 1 rfl rfl rfl rfl (fun _ h => h) rfl rfl ?_
      refine WO_pure tbok 2 [(2, .int .i64 p2), (3, .int .i64 p3), (4, .pointer (some ⟨b1, 0, none⟩)), (8, .int .u64 0), (9, .bool false), (10, .int .u64 s_1), (11, .int .i64 s_2), (12, .pointer (some ⟨b14, 0, none⟩)), (17, .slice a_p1 p1.length c_p1), (18, .int .i64 (p1.length : Int)), (19, .int .i64 s_2), (25, .agg #[.int .i64 p0_0, .int .i64 p0_1, .int .i64 p0_2, .slice a_p0_3 p0_3.length c_p0_3, .slice a_p0_4 p0_4.length c_p0_4]), (30, .int .i64 (w64 (p2 + v_4.1))), (35, .int .i64 (w64 (p3 + v_4.2.1))), (38, .int .i64 v_4.2.2.1), (40, .pointer (some ⟨b14, 3, none⟩))] rfl ⟨rfl, rfl, rfl, rfl, rfl, rfl, rfl, rfl, rfl, rfl, rfl, rfl, rfl, rfl, rfl, rfl, trivial⟩ ?_
      refine WO_loadB tbok 1 rfl rfl rfl rfl (fun _ h => h) rfl rfl ?_
      obtain ⟨⟨y_5, y_6⟩, hc15, hm5⟩ := bind_some hm5
      refine WO_call0 (.tuple #[.int .i64 y_5, .bool y_6]) rfl rfl trivial rfl rfl rfl rfl St_closed ⟨74, #[], #[], rfl, callable_74, fun w hw => ⟨_, hw.sat, fiducial_descriptor_image_sum_walk h_p0_3 h_p0_4 hc15⟩⟩ ?_
      refine WO_pure tbok 5 [(2, .int .i64 p2), (3, .int .i64 p3), (4, .pointer (some ⟨b1, 0, none⟩)), (8, .int .u64 0), (9, .bool false), (10, .int .u64 s_1), (11, .int .i64 s_2), (12, .pointer (some ⟨b14, 0, none⟩)), (13, .int .i64 y_5), (14, .bool y_6), (17, .slice a_p1 p1.length c_p1), (18, .int .i64 (p1.length : Int)), (19, .int .i64 s_2)] rfl ⟨rfl, rfl, rfl, rfl, rfl, rfl, rfl, rfl, rfl, rfl, rfl, rfl, rfl, trivial⟩ ?_
      refine WO_end ?_
      refine WK_seq ?_
      refine WK_region ?_
      refine WO_loadB tbok 0 rfl rfl rfl rfl (fun _ h => h) rfl rfl ?_
      refine WO_pure tbok 3 [(2, .int .i64 p2), (3, .int .i64 p3), (4, .pointer (some ⟨b1, 0, none⟩)), (8, .int .u64 0), (9, .bool false), (10, .int .u64 s_1), (11, .int .i64 s_2), (12, .pointer (some ⟨b14, 0, none⟩)), (13, .int .i64 y_5), (14, .bool y_6), (17, .slice a_p1 p1.length c_p1), (18, .int .i64 (p1.length : Int)), (19, .int .i64 s_2), (46, .agg #[.int .i64 p0_0, .int .i64 p0_1, .int .i64 p0_2, .slice a_p0_3 p0_3.length c_p0_3, .slice a_p0_4 p0_4.length c_p0_4]), (47, .int .i64 p2), (49, .pointer (some ⟨b14, 4, none⟩))] rfl ⟨rfl, rfl, rfl, rfl, rfl, rfl, rfl, rfl, rfl, rfl, rfl, rfl, rfl, rfl, rfl, rfl, trivial⟩ ?_
      refine WO_loadB tbok 1 rfl rfl rfl rfl (fun _ h => h) rfl rfl ?_
      refine WO_pure tbok 4 [(2, .int .i64 p2), (3, .int .i64 p3), (4, .pointer (some ⟨b1, 0, none⟩)), (8, .int .u64 0), (9, .bool false), (10, .int .u64 s_1), (11, .int .i64 s_2), (12, .pointer (some ⟨b14, 0, none⟩)), (13, .int .i64 y_5), (14, .bool y_6), (17, .slice a_p1 p1.length c_p1), (18, .int .i64 (p1.length : Int)), (19, .int .i64 s_2), (46, .agg #[.int .i64 p0_0, .int .i64 p0_1, .int .i64 p0_2, .slice a_p0_3 p0_3.length c_p0_3, .slice a_p0_4 p0_4.length c_p0_4]), (51, .int .i64 (w64 (p2 + v_4.2.2.2.2.1))), (52, .int .i64 p3), (54, .pointer (some ⟨b14, 5, none⟩))] rfl ⟨rfl, rfl, rfl, rfl, rfl, rfl, rfl, rfl, rfl, rfl, rfl, rfl, rfl, rfl, rfl, rfl, rfl, trivial⟩ ?_
      refine WO_loadB tbok 1 rfl rfl rfl rfl (fun _ h => h) rfl rfl ?_
      refine WO_pure tbok 3 [(2, .int .i64 p2), (3, .int .i64 p3), (4, .pointer (some ⟨b1, 0, none⟩)), (8, .int .u64 0), (9, .bool false), (10, .int .u64 s_1), (11, .int .i64 s_2), (12, .pointer (some ⟨b14, 0, none⟩)), (13, .int .i64 y_5), (14, .bool y_6), (17, .slice a_p1 p1.length c_p1), (18, .int .i64 (p1.length : Int)), (19, .int .i64 s_2), (46, .agg #[.int .i64 p0_0, .int .i64 p0_1, .int .i64 p0_2, .slice a_p0_3 p0_3.length c_p0_3, .slice a_p0_4 p0_4.length c_p0_4]), (51, .int .i64 (w64 (p2 + v_4.2.2.2.2.1))), (56, .int .i64 (w64 (p3 + v_4.2.2.2.2.2.1))), (58, .pointer (some ⟨b14, 6, none⟩))] rfl ⟨rfl, rfl, rfl, rfl, rfl, rfl, rfl, rfl, rfl, rfl, rfl, rfl, rfl, rfl, rfl, rfl, rfl, trivial⟩ ?_
      refine WO_loadB tbok 1 rfl rfl rfl rfl (fun _ h => h) rfl rfl ?_
      refine WO_pure tbok 2 [(2, .int .i64 p2), (3, .int .i64 p3), (4, .pointer (some ⟨b1, 0, none⟩)), (8, .int .u64 0), (9, .bool false), (10, .int .u64 s_1), (11, .int .i64 s_2), (12, .pointer (some ⟨b14, 0, none⟩)), (13, .int .i64 y_5), (14, .bool y_6), (17, .slice a_p1 p1.length c_p1), (18, .int .i64 (p1.length : Int)), (19, .int .i64 s_2), (46, .agg #[.int .i64 p0_0, .int .i64 p0_1, .int .i64 p0_2, .slice a_p0_3 p0_3.length c_p0_3, .slice a_p0_4 p0_4.length c_p0_4]), (51, .int .i64 (w64 (p2 + v_4.2.2.2.2.1))), (56, .int .i64 (w64 (p3 + v_4.2.2.2.2.2.1))), (59, .int .i64 v_4.2.2.2.2.2.2.1), (61, .pointer (some ⟨b14, 7, none⟩))] rfl ⟨rfl, rfl, rfl, rfl, rfl, rfl, rfl, rfl, rfl, rfl, rfl, rfl, rfl, rfl, rfl, rfl, rfl, rfl, trivial⟩ ?_
      refine WO_loadB tbok 1 rfl rfl rfl rfl (fun _ h => h) rfl rfl ?_
      obtain ⟨⟨y_7, y_8⟩, hc16, hm5⟩ := bind_some hm5
      refine WO_call0 (.tuple #[.int .i64 y_7, .bool y_8]) rfl rfl trivial rfl rfl rfl rfl St_closed ⟨74, #[], #[], rfl, callable_74, fun w hw => ⟨_, hw.sat, fiducial_descriptor_image_sum_walk h_p0_3 h_p0_4 hc16⟩⟩ ?_
      refine WO_pure tbok 5 [(2, .int .i64 p2), (3, .int .i64 p3), (4, .pointer (some ⟨b1, 0, none⟩)), (8, .int .u64 0), (9, .bool false), (10, .int .u64 s_1), (11, .int .i64 s_2), (12, .pointer (some ⟨b14, 0, none⟩)), (13, .int .i64 y_5), (14, .bool y_6), (15, .int .i64 y_7), (16, .bool y_8), (17, .slice a_p1 p1.length c_p1), (18, .int .i64 (p1.length : Int)), (19, .int .i64 s_2)] rfl ⟨rfl, rfl, rfl, rfl, rfl, rfl, rfl, rfl, rfl, rfl, rfl, rfl, rfl, rfl, rfl, trivial⟩ ?_
      refine WO_end ?_
      refine WK_seq ?_
      refine WK_seq ?_
      obtain ⟨s_9, hx17, hm5⟩ := bind_some hm5
      refine WK_meet [(2, .int .i64 p2), (3, .int .i64 p3), (4, .pointer (some ⟨b1, 0, none⟩)), (8, .int .u64 0), (9, .bool false), (10, .int .u64 s_1), (11, .int .i64 s_2), (12, .pointer (some ⟨b14, 0, none⟩)), (13, .int .i64 y_5), (15, .int .i64 y_7), (17, .slice a_p1 p1.length c_p1), (18, .int .i64 (p1.length : Int)), (19, .int .i64 s_2), (71, .bool s_9)] (St w0 m m [[⟨b1, 101, [.int .i64 p0_0, .int .i64 p0_1, .int .i64 p0_2, .slice a_p0_3 p0_3.length c_p0_3, .slice a_p0_4 p0_4.length c_p0_4]⟩], [⟨b14, 94, [.int .i64 v_4.1, .int .i64 v_4.2.1, .int .i64 v_4.2.2.1, .int .i64 v_4.2.2.2.1, .int .i64 v_4.2.2.2.2.1, .int .i64 v_4.2.2.2.2.2.1, .int .i64 v_4.2.2.2.2.2.2.1, .int .i64 v_4.2.2.2.2.2.2.2]⟩]]) ?_ (fun hk18 => ?_)
      · refine WK_cond (b := s_9) rfl (fun hb19 => ?_) (fun hb19 => ?_)
        · have hm5 := ifT hb19 hm5
          refine WK_seq ?_
          refine WK_region ?_
          refine WO_pure tbok 2 [(2, .int .i64 p2), (3, .int .i64 p3), (4, .pointer (some ⟨b1, 0, none⟩)), (8, .int .u64 0), (9, .bool false), (10, .int .u64 s_1), (11, .int .i64 s_2), (12, .pointer (some ⟨b14, 0, none⟩)), (13, .int .i64 y_5), (15, .int .i64 y_7), (17, .slice a_p1 p1.length c_p1), (18, .int .i64 (p1.length : Int)), (19, .int .i64 s_2)] rfl ⟨rfl, rfl, rfl, rfl, rfl, rfl, rfl, rfl, rfl, rfl, rfl, rfl, rfl, trivial⟩ ?_
          refine WO_end ?_
          cases hm5
          have hq := hd9 _ rfl
          subst hq
          have hm : some _ = some _ := hm
          cases hm
          exact WK_ret (ret_out (L := []) (RLc_tmp rfl (RLc_tmp rfl RLc_nil)) (List.nil_sublist _) rfl)
        · have hm5 := ifF hb19 hm5
          refine WK_skip ?_
          refine WK_seq ?_
          refine WK_region ?_
          refine WO_pure tbok 3 [(2, .int .i64 p2), (3, .int .i64 p3), (4, .pointer (some ⟨b1, 0, none⟩)), (8, .int .u64 0), (9, .bool false), (10, .int .u64 s_1), (11, .int .i64 s_2), (12, .pointer (some ⟨b14, 0, none⟩)), (15, .int .i64 y_7), (17, .slice a_p1 p1.length c_p1), (18, .int .i64 (p1.length : Int)), (19, .int .i64 s_2), (72, .int .i64 y_5), (74, .pointer (some ⟨b14, 6, none⟩))] rfl ⟨rfl, rfl, rfl, rfl, rfl, rfl, rfl, rfl, rfl, rfl, rfl, rfl, rfl, rfl, trivial⟩ ?_
          refine WO_loadB tbok 1 rfl rfl rfl rfl (fun _ h => h) rfl rfl ?_
          refine WO_pure tbok 3 [(2, .int .i64 p2), (3, .int .i64 p3), (4, .pointer (some ⟨b1, 0, none⟩)), (8, .int .u64 0), (9, .bool false), (10, .int .u64 s_1), (11, .int .i64 s_2), (12, .pointer (some ⟨b14, 0, none⟩)), (15, .int .i64 y_7), (17, .slice a_p1 p1.length c_p1), (18, .int .i64 (p1.length : Int)), (19, .int .i64 s_2), (76, .int .i64 (w64 (y_5 * v_4.2.2.2.2.2.2.1))), (78, .pointer (some ⟨b14, 7, none⟩))] rfl ⟨rfl, rfl, rfl, rfl, rfl, rfl, rfl, rfl, rfl, rfl, rfl, rfl, rfl, rfl, trivial⟩ ?_
          refine WO_loadB tbok 1 rfl rfl rfl rfl (fun _ h => h) rfl rfl ?_
          refine WO_pure tbok 4 [(2, .int .i64 p2), (3, .int .i64 p3), (4, .pointer (some ⟨b1, 0, none⟩)), (8, .int .u64 0), (9, .bool false), (10, .int .u64 s_1), (11, .int .i64 s_2), (12, .pointer (some ⟨b14, 0, none⟩)), (17, .slice a_p1 p1.length c_p1), (18, .int .i64 (p1.length : Int)), (19, .int .i64 s_2), (80, .int .i64 (w64 ((w64 (y_5 * v_4.2.2.2.2.2.2.1)) * v_4.2.2.2.2.2.2.2))), (81, .int .i64 y_7), (83, .pointer (some ⟨b14, 2, none⟩))] rfl ⟨rfl, rfl, rfl, rfl, rfl, rfl, rfl, rfl, rfl, rfl, rfl, rfl, rfl, rfl, trivial⟩ ?_
          refine WO_loadB tbok 1 rfl rfl rfl rfl (fun _ h => h) rfl rfl ?_
          refine WO_pure tbok 3 [(2, .int .i64 p2), (3, .int .i64 p3), (4, .pointer (some ⟨b1, 0, none⟩)), (8, .int .u64 0), (9, .bool false), (10, .int .u64 s_1), (11, .int .i64 s_2), (17, .slice a_p1 p1.length c_p1), (18, .int .i64 (p1.length : Int)), (19, .int .i64 s_2), (80, .int .i64 (w64 ((w64 (y_5 * v_4.2.2.2.2.2.2.1)) * v_4.2.2.2.2.2.2.2))), (85, .int .i64 (w64 (y_7 * v_4.2.2.1))), (87, .pointer (some ⟨b14, 3, none⟩))] rfl ⟨rfl, rfl, rfl, rfl, rfl, rfl, rfl, rfl, rfl, rfl, rfl, rfl, rfl, trivial⟩ ?_
          refine WO_loadB tbok 1 rfl rfl rfl rfl (fun _ h => h) rfl rfl ?_
          refine WO_pure tbok 2 [(2, .int .i64 p2), (3, .int .i64 p3), (4, .pointer (some ⟨b1, 0, none⟩)), (8, .int .u64 0), (9, .bool false), (10, .int .u64 s_1), (11, .int .i64 s_2), (17, .slice a_p1 p1.length c_p1), (18, .int .i64 (p1.length : Int)), (19, .int .i64 s_2), (90, .bool (decide ((w64 ((w64 (y_5 * v_4.2.2.2.2.2.2.1)) * v_4.2.2.2.2.2.2.2)) < (w64 ((w64 (y_7 * v_4.2.2.1)) * v_4.2.2.2.1)))))] rfl ⟨rfl, rfl, rfl, rfl, rfl, rfl, rfl, rfl, rfl, rfl, rfl, trivial⟩ ?_
          refine WO_end ?_
          obtain ⟨s_10, hx20, hm5⟩ := bind_some hm5
          refine WK_meet [(2, .int .i64 p2), (3, .int .i64 p3), (4, .pointer (some ⟨b1, 0, none⟩)), (8, .int .u64 0), (9, .bool false), (10, .int .u64 s_10), (17, .slice a_p1 p1.length c_p1), (18, .int .i64 (p1.length : Int)), (19, .int .i64 s_2)] (St w0 m m [[⟨b1, 101, [.int .i64 p0_0, .int .i64 p0_1, .int .i64 p0_2, .slice a_p0_3 p0_3.length c_p0_3, .slice a_p0_4 p0_4.length c_p0_4]⟩], [⟨b14, 94, [.int .i64 v_4.1, .int .i64 v_4.2.1, .int .i64 v_4.2.2.1, .int .i64 v_4.2.2.2.1, .int .i64 v_4.2.2.2.2.1, .int .i64 v_4.2.2.2.2.2.1, .int .i64 v_4.2.2.2.2.2.2.1, .int .i64 v_4.2.2.2.2.2.2.2]⟩]]) ?_ (fun hk21 => ?_)
          · refine WK_blk ?_
            refine WK_region ?_
            refine WO_pure tbok 2 [(2, .int .i64 p2), (3, .int .i64 p3), (4, .pointer (some ⟨b1, 0, none⟩)), (8, .int .u64 0), (9, .bool false), (10, .int .u64 s_10), (17, .slice a_p1 p1.length c_p1), (18, .int .i64 (p1.length : Int)), (19, .int .i64 (w64 (s_2 + 1)))] rfl ⟨rfl, rfl, rfl, rfl, rfl, rfl, rfl, rfl, rfl, trivial⟩ ?_
            refine WO_end ?_
            cases hm5
            refine WK.sub ?_ (WK.cls (fun _ h => St.take 1 h) (hn8 _ () rfl trivial))
            exact ⟨rfl, rfl, rfl, rfl, rfl, rfl, rfl, rfl, rfl, trivial⟩
          · refine WK_cond (b := decide ((w64 ((w64 (y_5 * v_4.2.2.2.2.2.2.1)) * v_4.2.2.2.2.2.2.2)) < (w64 ((w64 (y_7 * v_4.2.2.1)) * v_4.2.2.2.1)))) rfl (fun hb22 => ?_) (fun hb22 => ?_)
            · have hx20 := ifT hb22 hx20
              refine WK_region ?_
              refine WO_pure tbok 2 [(2, .int .i64 p2), (3, .int .i64 p3), (4, .pointer (some ⟨b1, 0, none⟩)), (8, .int .u64 0), (9, .bool false), (10, .int .u64 s_1), (17, .slice a_p1 p1.length c_p1), (18, .int .i64 (p1.length : Int)), (19, .int .i64 s_2), (91, .int .u64 s_1), (92, .int .i64 s_2)] rfl ⟨rfl, rfl, rfl, rfl, rfl, rfl, rfl, rfl, rfl, rfl, rfl, trivial⟩ ?_
              obtain ⟨hc23, hx20⟩ := chk_some hx20
              refine WO_shl rfl rfl rfl rfl rfl hc23 ?_
              refine WO_pure tbok 2 [(2, .int .i64 p2), (3, .int .i64 p3), (4, .pointer (some ⟨b1, 0, none⟩)), (8, .int .u64 0), (9, .bool false), (10, .int .u64 (wu64 (((BitVec.ofInt 64 s_1 ||| BitVec.ofInt 64 (wu64 (1 * 2 ^ (min (s_2 : Int).toNat 64)))).toNat : Int)))), (17, .slice a_p1 p1.length c_p1), (18, .int .i64 (p1.length : Int)), (19, .int .i64 s_2)] rfl ⟨rfl, rfl, rfl, rfl, rfl, rfl, rfl, rfl, rfl, trivial⟩ ?_
              refine WO_end ?_
              cases hx20
              refine WK.sub ?_ (WK.cls (fun _ h => h) hk21)
              exact ⟨rfl, rfl, rfl, rfl, rfl, rfl, rfl, rfl, rfl, trivial⟩
            · have hx20 := ifF hb22 hx20
              refine WK_skip ?_
              cases hx20
              refine WK.sub ?_ (WK.cls (fun _ h => h) hk21)
              exact ⟨rfl, rfl, rfl, rfl, rfl, rfl, rfl, rfl, rfl, trivial⟩
      · refine WK_region ?_
        refine WO_pure tbok 3 [(2, .int .i64 p2), (3, .int .i64 p3), (4, .pointer (some ⟨b1, 0, none⟩)), (8, .int .u64 0), (9, .bool false), (10, .int .u64 s_1), (11, .int .i64 s_2), (12, .pointer (some ⟨b14, 0, none⟩)), (13, .int .i64 y_5), (15, .int .i64 y_7), (16, .bool y_8), (17, .slice a_p1 p1.length c_p1), (18, .int .i64 (p1.length : Int)), (19, .int .i64 s_2), (68, .bool (!y_6))] rfl ⟨rfl, rfl, rfl, rfl, rfl, rfl, rfl, rfl, rfl, rfl, rfl, rfl, rfl, rfl, rfl, trivial⟩ ?_
        refine WO_split (d := 68) (b := !y_6) rfl (fun hb24 => ?_) (fun hb24 => ?_)
        · have hx17 := ifT hb24 hx17
          refine WO_pure tbok 3 [(2, .int .i64 p2), (3, .int .i64 p3), (4, .pointer (some ⟨b1, 0, none⟩)), (8, .int .u64 0), (9, .bool false), (10, .int .u64 s_1), (11, .int .i64 s_2), (12, .pointer (some ⟨b14, 0, none⟩)), (13, .int .i64 y_5), (15, .int .i64 y_7), (17, .slice a_p1 p1.length c_p1), (18, .int .i64 (p1.length : Int)), (19, .int .i64 s_2), (71, .bool true)] rfl ⟨rfl, rfl, rfl, rfl, rfl, rfl, rfl, rfl, rfl, rfl, rfl, rfl, rfl, rfl, trivial⟩ ?_
          refine WO_end ?_
          cases hx17
          refine WK.sub ?_ (WK.cls (fun _ h => h) hk18)
          exact ⟨rfl, rfl, rfl, rfl, rfl, rfl, rfl, rfl, rfl, rfl, rfl, rfl, rfl, rfl, trivial⟩
        · have hx17 := ifF hb24 hx17
          refine WO_pure tbok 3 [(2, .int .i64 p2), (3, .int .i64 p3), (4, .pointer (some ⟨b1, 0, none⟩)), (8, .int .u64 0), (9, .bool false), (10, .int .u64 s_1), (11, .int .i64 s_2), (12, .pointer (some ⟨b14, 0, none⟩)), (13, .int .i64 y_5), (15, .int .i64 y_7), (17, .slice a_p1 p1.length c_p1), (18, .int .i64 (p1.length : Int)), (19, .int .i64 s_2), (71, .bool (!y_8))] rfl ⟨rfl, rfl, rfl, rfl, rfl, rfl, rfl, rfl, rfl, rfl, rfl, rfl, rfl, rfl, trivial⟩ ?_
          refine WO_end ?_
          cases hx17
          refine WK.sub ?_ (WK.cls (fun _ h => h) hk18)
          exact ⟨rfl, rfl, rfl, rfl, rfl, rfl, rfl, rfl, rfl, rfl, rfl, rfl, rfl, rfl, trivial⟩
    · have hm5 := ifF hb11 hm5
      refine WK_exit rfl ?_
      cases hm5
      refine WK.sub ?_ (WK.cls (fun _ h => h) (hk4 (s_1, ()) (hd9 _ rfl)))
      exact ⟨rfl, rfl, rfl, trivial⟩
def descriptor_All_Q (r : List (Int × Int) × List Int × Int) : Value → Mu → List Ent → Prop := fun v m L => ∃ (a0 : Option Addr) (q0 c0 : Nat) (a1 : Option Addr) (q1 c1 : Nat), v = .tuple #[.slice a0 q0 c0, .slice a1 q1 c1, .int .i64 r.2.2] ∧ SlR (FE T2) 2 m (.slice a0 q0 c0) r.1 ∧ SlR (FE (I1 .u64)) 1 m (.slice a1 q1 c1) r.2.1
theorem descriptor_All_walk {m : Mu} {p0_0 : Int} {p0_1 : Int} {p0_2 : Int} {p0_3 : List Int} {p1 : List (Int × Int × Int × Int × Int × Int × Int × Int)} {a_p0_3 : Option Addr} {q_p0_3 c_p0_3 : Nat} {a_p1 : Option Addr} {q_p1 c_p1 : Nat} (h_p0_3 : SlR (FE (I1 .i64)) 1 m (.slice a_p0_3 q_p0_3 c_p0_3) p0_3) (h_p1 : SlR (FE T8) 8 m (.slice a_p1 q_p1 c_p1) p1) {r : List (Int × Int) × List Int × Int} (hm : descriptor_All p0_0 p0_1 p0_2 p0_3 p1 = some r) :
    Go.E.Spec Try.prog 21 [.agg #[.int .i64 p0_0, .int .i64 p0_1, .int .i64 p0_2, .slice a_p0_3 q_p0_3 c_p0_3], .slice a_p1 q_p1 c_p1] m (descriptor_All_Q r) := by
  refine Spec_enter Try.func21 rfl rfl rfl (fun w0 => ?_)
  refine WK.sub (e' := [(0, .agg #[.int .i64 p0_0, .int .i64 p0_1, .int .i64 p0_2, .slice a_p0_3 q_p0_3 c_p0_3]), (1, .slice a_p1 q_p1 c_p1)]) ⟨rfl, rfl, trivial⟩ ?_
  obtain rfl := SlR.qlen h_p0_3
  obtain rfl := SlR.qlen h_p1
  refine WK.sub (e' := [(0, .agg #[.int .i64 p0_0, .int .i64 p0_1, .int .i64 p0_2, .slice a_p0_3 p0_3.length c_p0_3]), (1, .slice a_p1 p1.length c_p1)]) ⟨rfl, rfl, trivial⟩ ?_
  unfold descriptor_All at hm
  refine WK_seq ?_
  refine WK_region ?_
  refine WO_box [.int .i64 p0_0, .int .i64 p0_1, .int .i64 p0_2, .slice a_p0_3 p0_3.length c_p0_3] rfl rfl trivial rfl rfl rfl (fun b1 => ?_)
  refine WO.cls (C' := St w0 m m [[⟨b1, 24, [.int .i64 p0_0, .int .i64 p0_1, .int .i64 p0_2, .slice a_p0_3 p0_3.length c_p0_3]⟩]]) (fun _ h => h) ?_
  refine WO_pure tbok 3 [(1, .slice a_p1 p1.length c_p1), (2, .pointer (some ⟨b1, 0, none⟩)), (4, .slice none 0 0), (5, .slice none 0 0), (6, .int .i64 0)] rfl ⟨rfl, rfl, rfl, rfl, rfl, trivial⟩ ?_
  refine WO_end ?_
  refine WK_seq ?_
  refine WK_region ?_
  refine WO_loadB tbok 0 rfl rfl rfl rfl (fun _ h => h) rfl rfl ?_
  refine WO_pure tbok 1 [(1, .slice a_p1 p1.length c_p1), (2, .pointer (some ⟨b1, 0, none⟩)), (4, .slice none 0 0), (5, .slice none 0 0), (6, .int .i64 0), (16, .agg #[.int .i64 p0_0, .int .i64 p0_1, .int .i64 p0_2, .slice a_p0_3 p0_3.length c_p0_3]), (17, .slice a_p1 p1.length c_p1)] rfl ⟨rfl, rfl, rfl, rfl, rfl, rfl, rfl, trivial⟩ ?_
  obtain ⟨⟨y_1, y_2, y_3, y_4, y_5, y_6⟩, hc2, hm⟩ := bind_some hm
  refine WO_call2 (descriptor_opened_Q (y_1, y_2, y_3, y_4, y_5, y_6)) rfl rfl trivial rfl rfl rfl rfl ⟨54, #[], #[], rfl, callable_54, descriptor_opened_walk h_p0_3 h_p1 hc2⟩ (fun v8 m9 L7 hle10 hq => ?_)
  obtain ⟨a3, qa3, c4, a5, qa5, c6, rfl, h11, h12⟩ := hq
  obtain rfl := SlR.qlen h11
  obtain rfl := SlR.qlen h12
  refine WO.cls (C' := St w0 m m9 [[⟨b1, 24, [.int .i64 p0_0, .int .i64 p0_1, .int .i64 p0_2, .slice a_p0_3 p0_3.length c_p0_3]⟩], L7]) (fun _ h => h.sub (by simp)) ?_
  refine WO_pure tbok 3 [(1, .slice a_p1 p1.length c_p1), (2, .pointer (some ⟨b1, 0, none⟩)), (4, .slice none 0 0), (5, .slice none 0 0), (6, .int .i64 0), (19, .agg #[.int .i64 y_1, .int .i64 y_2, .int .i64 y_3, .slice a3 ((y_4).length) c4, .slice a5 ((y_5).length) c6]), (20, .int .i64 y_6)] rfl ⟨rfl, rfl, rfl, rfl, rfl, rfl, rfl, trivial⟩ ?_
  refine WO_alloc tbok [.int .i64 0, .int .i64 0, .int .i64 0, .slice none 0 0, .slice none 0 0] rfl rfl trivial rfl rfl rfl rfl (fun b13 => ?_)
  refine WO.cls (C' := St w0 m m9 [[⟨b1, 24, [.int .i64 p0_0, .int .i64 p0_1, .int .i64 p0_2, .slice a_p0_3 p0_3.length c_p0_3]⟩], L7, [⟨b13, 101, [.int .i64 0, .int .i64 0, .int .i64 0, .slice none 0 0, .slice none 0 0]⟩]]) (fun _ h => h) ?_
  refine WO_storeB tbok 2 [.int .i64 y_1, .int .i64 y_2, .int .i64 y_3, .slice a3 ((y_4).length) c4, .slice a5 ((y_5).length) c6] rfl rfl rfl rfl rfl rfl rfl ?_
  refine WO.cls (C' := St w0 m m9 [[⟨b1, 24, [.int .i64 p0_0, .int .i64 p0_1, .int .i64 p0_2, .slice a_p0_3 p0_3.length c_p0_3]⟩], L7, [⟨b13, 101, [.int .i64 y_1, .int .i64 y_2, .int .i64 y_3, .slice a3 ((y_4).length) c4, .slice a5 ((y_5).length) c6]⟩]]) (fun _ h => h) ?_
  refine WO_pure tbok 1 [(1, .slice a_p1 p1.length c_p1), (2, .pointer (some ⟨b1, 0, none⟩)), (4, .slice none 0 0), (5, .slice none 0 0), (6, .int .i64 0), (7, .pointer (some ⟨b13, 0, none⟩)), (8, .int .i64 y_6)] rfl ⟨rfl, rfl, rfl, rfl, rfl, rfl, rfl, trivial⟩ ?_
  refine WO_end ?_
  refine WK_seq ?_
  refine WK_seq ?_
  refine WK_region ?_
  refine WO_pure tbok 2 [(1, .slice a_p1 p1.length c_p1), (2, .pointer (some ⟨b1, 0, none⟩)), (4, .slice none 0 0), (5, .slice none 0 0), (6, .int .i64 0), (7, .pointer (some ⟨b13, 0, none⟩)), (8, .int .i64 y_6), (22, .bool (y_6 != 0))] rfl ⟨rfl, rfl, rfl, rfl, rfl, rfl, rfl, rfl, trivial⟩ ?_
  refine WO_end ?_
  refine WK_cond (b := y_6 != 0) rfl (fun hb14 => ?_) (fun hb14 => ?_)
  · have hm := ifT hb14 hm
    refine WK_seq ?_
    refine WK_region ?_
    refine WO_pure tbok 4 [(1, .slice a_p1 p1.length c_p1), (2, .pointer (some ⟨b1, 0, none⟩)), (4, .slice none 0 0), (5, .slice none 0 0), (6, .int .i64 y_6), (7, .pointer (some ⟨b13, 0, none⟩))] rfl ⟨rfl, rfl, rfl, rfl, rfl, rfl, trivial⟩ ?_
    refine WO_end ?_
    cases hm
    exact WK_ret (ret_out (L := []) (RLc_tmp rfl (RLc_tmp rfl (RLc_tmp rfl RLc_nil))) (List.nil_sublist _) ⟨none, 0, 0, none, 0, 0, rfl, SlR_nil, SlR_nil⟩)
  · have hm := ifF hb14 hm
    refine WK_skip ?_
    refine WK_seq ?_
    refine WK_region ?_
    refine WO_pure tbok 1 [(1, .slice a_p1 p1.length c_p1), (2, .pointer (some ⟨b1, 0, none⟩)), (4, .slice none 0 0), (5, .slice none 0 0), (6, .int .i64 0), (7, .pointer (some ⟨b13, 0, none⟩)), (9, .slice none 0 0)] rfl ⟨rfl, rfl, rfl, rfl, rfl, rfl, rfl, trivial⟩ ?_
    refine WO_end ?_
    refine WK_seq ?_
    refine WK_region ?_
    refine WO_pure tbok 1 [(1, .slice a_p1 p1.length c_p1), (2, .pointer (some ⟨b1, 0, none⟩)), (4, .slice none 0 0), (5, .slice none 0 0), (6, .int .i64 0), (7, .pointer (some ⟨b13, 0, none⟩)), (9, .slice none 0 0), (10, .slice none 0 0)] rfl ⟨rfl, rfl, rfl, rfl, rfl, rfl, rfl, rfl, trivial⟩ ?_
    refine WO_end ?_
    refine WK_seq ?_
    refine WK_seq ?_
    refine WK_region ?_
    refine WO_pure tbok 1 [(1, .slice a_p1 p1.length c_p1), (2, .pointer (some ⟨b1, 0, none⟩)), (4, .slice none 0 0), (5, .slice none 0 0), (6, .int .i64 0), (7, .pointer (some ⟨b13, 0, none⟩)), (9, .slice none 0 0), (10, .slice none 0 0), (24, .pointer (some ⟨b1, 1, none⟩))] rfl ⟨rfl, rfl, rfl, rfl, rfl, rfl, rfl, rfl, rfl, trivial⟩ ?_
    refine WO_loadB tbok 0 rfl rfl rfl rfl (fun _ h => h) rfl rfl ?_
    refine WO_pure tbok 1 [(1, .slice a_p1 p1.length c_p1), (2, .pointer (some ⟨b1, 0, none⟩)), (4, .slice none 0 0), (5, .slice none 0 0), (6, .int .i64 0), (7, .pointer (some ⟨b13, 0, none⟩)), (9, .slice none 0 0), (10, .slice none 0 0), (25, .int .i64 p0_1), (26, .int .i64 0)] rfl ⟨rfl, rfl, rfl, rfl, rfl, rfl, rfl, rfl, rfl, rfl, trivial⟩ ?_
    refine WO_end ?_
    refine WK_pad ?_
    refine WK_pad ?_
    obtain ⟨x31, hx32, hm⟩ := bind_some hm
    refine WK_join (β := (List (Int × Int) × List Int) × (Option Addr × Nat × Nat × List Ent × Option Addr × Nat × Nat × List Ent)) (fun p => p.1 = x31 ∧ OwnE 67 2 T2 (.slice p.2.1 p.2.2.1 p.2.2.2.1) p.1.1 p.2.2.2.2.1 ∧ OwnE 95 1 (I1 .u64) (.slice p.2.2.2.2.2.1 p.2.2.2.2.2.2.1 p.2.2.2.2.2.2.2.1) p.1.2 p.2.2.2.2.2.2.2.2) (fun p => [(4, .slice none 0 0), (5, .slice none 0 0), (6, .int .i64 0), (9, .slice p.2.1 p.2.2.1 p.2.2.2.1), (10, .slice p.2.2.2.2.2.1 p.2.2.2.2.2.2.1 p.2.2.2.2.2.2.2.1)]) (fun p => St w0 m m9 [[⟨b1, 24, [.int .i64 p0_0, .int .i64 p0_1, .int .i64 p0_2, .slice a_p0_3 p0_3.length c_p0_3]⟩], L7, [⟨b13, 101, [.int .i64 y_1, .int .i64 y_2, .int .i64 y_3, .slice a3 ((y_4).length) c4, .slice a5 ((y_5).length) c6]⟩], p.2.2.2.2.1, p.2.2.2.2.2.2.2.2]) ?_ (fun hk33 => ?_)
    · rintro ⟨⟨l_10, l_11⟩, ⟨a24, q25, c26, L23, a28, q29, c30, L27⟩⟩ ⟨hq39, hL23, hL27⟩
      subst hq39
      have hqq : q25 = l_10.length := OwnE.qlen hL23
      subst hqq
      have hqq : q29 = l_11.length := OwnE.qlen hL27
      subst hqq
      refine WK.sub (e' := [(4, .slice none 0 0), (5, .slice none 0 0), (6, .int .i64 0), (9, .slice a24 ((l_10).length) c26), (10, .slice a28 ((l_11).length) c30)]) ⟨rfl, rfl, rfl, rfl, rfl, trivial⟩ (WK.cls (C' := St w0 m m9 [[⟨b1, 24, [.int .i64 p0_0, .int .i64 p0_1, .int .i64 p0_2, .slice a_p0_3 p0_3.length c_p0_3]⟩], L7, [⟨b13, 101, [.int .i64 y_1, .int .i64 y_2, .int .i64 y_3, .slice a3 ((y_4).length) c4, .slice a5 ((y_5).length) c6]⟩], L23, L27]) (fun _ h => h) ?_)
      refine WK_seq ?_
      refine WK_region ?_
      refine WO_pure tbok 5 [(4, .slice a24 ((l_10).length) c26), (5, .slice a28 ((l_11).length) c30), (6, .int .i64 0)] rfl ⟨rfl, rfl, rfl, trivial⟩ ?_
      refine WO_end ?_
      cases hm
      refine WK_freeze 3 rfl (fun m40 hle41 hmm42 => ?_)
      refine WK.cls (C' := St w0 m m40 [[⟨b1, 24, [.int .i64 p0_0, .int .i64 p0_1, .int .i64 p0_2, .slice a_p0_3 p0_3.length c_p0_3]⟩], L7, [⟨b13, 101, [.int .i64 y_1, .int .i64 y_2, .int .i64 y_3, .slice a3 ((y_4).length) c4, .slice a5 ((y_5).length) c6]⟩], [], L27]) (fun _ h => h) ?_
      refine WK_freeze 4 rfl (fun m43 hle44 hmm45 => ?_)
      refine WK.cls (C' := St w0 m m43 [[⟨b1, 24, [.int .i64 p0_0, .int .i64 p0_1, .int .i64 p0_2, .slice a_p0_3 p0_3.length c_p0_3]⟩], L7, [⟨b13, 101, [.int .i64 y_1, .int .i64 y_2, .int .i64 y_3, .slice a3 ((y_4).length) c4, .slice a5 ((y_5).length) c6]⟩], [], []]) (fun _ h => h) ?_
      exact WK_ret (ret_out (L := []) (RLc_tmp rfl (RLc_tmp rfl (RLc_tmp rfl RLc_nil))) (List.nil_sublist _) ⟨a24, _, c26, a28, _, c30, rfl, ((OwnE.rd (E := T2) (k := 2) (fun _ => rfl) hL23 hmm42).mono (mono_FE _) hle44), (OwnE.rd (E := (I1 .u64)) (k := 1) (fun _ => rfl) hL27 hmm45)⟩)
    · refine WK_block ?_
      refine WK_loop (S := List (Int × Int) × List Int × Int) (G := Option Addr × Nat × Nat × List Ent × Option Addr × Nat × Nat × List Ent) (fun s => descriptor_All_s1 p0_0 p0_1 p1 y_1 y_2 y_3 y_4 y_5 s.1 s.2.1 s.2.2) (fun s g => [(1, .slice a_p1 p1.length c_p1), (2, .pointer (some ⟨b1, 0, none⟩)), (4, .slice none 0 0), (5, .slice none 0 0), (6, .int .i64 0), (7, .pointer (some ⟨b13, 0, none⟩)), (9, .slice g.1 g.2.1 g.2.2.1), (10, .slice g.2.2.2.2.1 g.2.2.2.2.2.1 g.2.2.2.2.2.2.1), (25, .int .i64 p0_1), (26, .int .i64 s.2.2)]) (fun s g => St w0 m m9 [[⟨b1, 24, [.int .i64 p0_0, .int .i64 p0_1, .int .i64 p0_2, .slice a_p0_3 p0_3.length c_p0_3]⟩], L7, [⟨b13, 101, [.int .i64 y_1, .int .i64 y_2, .int .i64 y_3, .slice a3 ((y_4).length) c4, .slice a5 ((y_5).length) c6]⟩], g.2.2.2.1, g.2.2.2.2.2.2.2]) (fun s g => OwnE 67 2 T2 (.slice g.1 g.2.1 g.2.2.1) s.1 g.2.2.2.1 ∧ OwnE 95 1 (I1 .u64) (.slice g.2.2.2.2.1 g.2.2.2.2.2.1 g.2.2.2.2.2.2.1) s.2.1 g.2.2.2.2.2.2.2) FUEL (([] : List (Int × Int)), ([] : List Int), 0) (none, 0, 0, [], none, 0, 0, []) x31 hx32 ⟨(OwnE.nil (T := 67) (k := 2) (E := T2) none), (OwnE.nil (T := 95) (k := 1) (E := (I1 .u64)) none)⟩ ⟨rfl, rfl, rfl, rfl, rfl, rfl, rfl, rfl, rfl, rfl, trivial⟩ (fun _ h => h) ?_
      rintro ⟨l_7, l_8, s_9⟩ ⟨a16, q17, c18, L15, a20, q21, c22, L19⟩ o35 fl36 hm34 ⟨hL15, hL19⟩ hn37 hd38
      have hm34 : descriptor_All_s1 p0_0 p0_1 p1 y_1 y_2 y_3 y_4 y_5 l_7 l_8 s_9 = some o35 := hm34
      unfold descriptor_All_s1 at hm34
      have hqq : q17 = l_7.length := OwnE.qlen hL15
      subst hqq
      have hqq : q21 = l_8.length := OwnE.qlen hL19
      subst hqq
      refine WK.sub (e' := [(1, .slice a_p1 p1.length c_p1), (2, .pointer (some ⟨b1, 0, none⟩)), (4, .slice none 0 0), (5, .slice none 0 0), (6, .int .i64 0), (7, .pointer (some ⟨b13, 0, none⟩)), (9, .slice a16 ((l_7).length) c18), (10, .slice a20 ((l_8).length) c22), (25, .int .i64 p0_1), (26, .int .i64 s_9)]) ⟨rfl, rfl, rfl, rfl, rfl, rfl, rfl, rfl, rfl, rfl, trivial⟩ (WK.cls (C' := St w0 m m9 [[⟨b1, 24, [.int .i64 p0_0, .int .i64 p0_1, .int .i64 p0_2, .slice a_p0_3 p0_3.length c_p0_3]⟩], L7, [⟨b13, 101, [.int .i64 y_1, .int .i64 y_2, .int .i64 y_3, .slice a3 ((y_4).length) c4, .slice a5 ((y_5).length) c6]⟩], L15, L19]) (fun _ h => h) ?_)
      refine WK_seq ?_
      refine WK_region ?_
      refine WO_pure tbok 1 [(1, .slice a_p1 p1.length c_p1), (2, .pointer (some ⟨b1, 0, none⟩)), (4, .slice none 0 0), (5, .slice none 0 0), (6, .int .i64 0), (7, .pointer (some ⟨b13, 0, none⟩)), (9, .slice a16 ((l_7).length) c18), (10, .slice a20 ((l_8).length) c22), (25, .int .i64 p0_1), (26, .int .i64 s_9), (27, .bool (decide (s_9 < p0_1)))] rfl ⟨rfl, rfl, rfl, rfl, rfl, rfl, rfl, rfl, rfl, rfl, rfl, trivial⟩ ?_
      refine WO_end ?_
      refine WK_seq ?_
      refine WK_cond (b := decide (s_9 < p0_1)) rfl (fun hb46 => ?_) (fun hb46 => ?_)
      · have hm34 := ifT hb46 hm34
        refine WK_skip ?_
        refine WK_seq ?_
        refine WK_block ?_
        refine WK_seq ?_
        refine WK_region ?_
        refine WO_pure tbok 2 [(1, .slice a_p1 p1.length c_p1), (2, .pointer (some ⟨b1, 0, none⟩)), (4, .slice none 0 0), (5, .slice none 0 0), (6, .int .i64 0), (7, .pointer (some ⟨b13, 0, none⟩)), (9, .slice a16 ((l_7).length) c18), (10, .slice a20 ((l_8).length) c22), (11, .int .i64 s_9), (25, .int .i64 p0_1), (26, .int .i64 s_9)] rfl ⟨rfl, rfl, rfl, rfl, rfl, rfl, rfl, rfl, rfl, rfl, rfl, trivial⟩ ?_
        refine WO_end ?_
        refine WK_seq ?_
        refine WK_region ?_
        refine WO_pure tbok 1 [(1, .slice a_p1 p1.length c_p1), (2, .pointer (some ⟨b1, 0, none⟩)), (4, .slice none 0 0), (5, .slice none 0 0), (6, .int .i64 0), (7, .pointer (some ⟨b13, 0, none⟩)), (9, .slice a16 ((l_7).length) c18), (10, .slice a20 ((l_8).length) c22), (11, .int .i64 s_9), (25, .int .i64 p0_1), (26, .int .i64 s_9), (29, .pointer (some ⟨b1, 0, none⟩))] rfl ⟨rfl, rfl, rfl, rfl, rfl, rfl, rfl, rfl, rfl, rfl, rfl, rfl, trivial⟩ ?_
        refine WO_loadB tbok 0 rfl rfl rfl rfl (fun _ h => h) rfl rfl ?_
        refine WO_pure tbok 1 [(1, .slice a_p1 p1.length c_p1), (2, .pointer (some ⟨b1, 0, none⟩)), (4, .slice none 0 0), (5, .slice none 0 0), (6, .int .i64 0), (7, .pointer (some ⟨b13, 0, none⟩)), (9, .slice a16 ((l_7).length) c18), (10, .slice a20 ((l_8).length) c22), (11, .int .i64 s_9), (25, .int .i64 p0_1), (26, .int .i64 s_9), (30, .int .i64 p0_0), (31, .int .i64 0)] rfl ⟨rfl, rfl, rfl, rfl, rfl, rfl, rfl, rfl, rfl, rfl, rfl, rfl, rfl, trivial⟩ ?_
        refine WO_end ?_
        obtain ⟨x63, hx64, hm34⟩ := bind_some hm34
        refine WK_join (β := (List (Int × Int) × List Int) × (Option Addr × Nat × Nat × List Ent × Option Addr × Nat × Nat × List Ent)) (fun p => p.1 = x63 ∧ OwnE 67 2 T2 (.slice p.2.1 p.2.2.1 p.2.2.2.1) p.1.1 p.2.2.2.2.1 ∧ OwnE 95 1 (I1 .u64) (.slice p.2.2.2.2.2.1 p.2.2.2.2.2.2.1 p.2.2.2.2.2.2.2.1) p.1.2 p.2.2.2.2.2.2.2.2) (fun p => [(1, .slice a_p1 p1.length c_p1), (2, .pointer (some ⟨b1, 0, none⟩)), (4, .slice none 0 0), (5, .slice none 0 0), (6, .int .i64 0), (7, .pointer (some ⟨b13, 0, none⟩)), (9, .slice p.2.1 p.2.2.1 p.2.2.2.1), (10, .slice p.2.2.2.2.2.1 p.2.2.2.2.2.2.1 p.2.2.2.2.2.2.2.1), (25, .int .i64 p0_1), (26, .int .i64 s_9)]) (fun p => St w0 m m9 [[⟨b1, 24, [.int .i64 p0_0, .int .i64 p0_1, .int .i64 p0_2, .slice a_p0_3 p0_3.length c_p0_3]⟩], L7, [⟨b13, 101, [.int .i64 y_1, .int .i64 y_2, .int .i64 y_3, .slice a3 ((y_4).length) c4, .slice a5 ((y_5).length) c6]⟩], p.2.2.2.2.1, p.2.2.2.2.2.2.2.2]) ?_ (fun hk65 => ?_)
        · rintro ⟨⟨l_15, l_16⟩, ⟨a56, q57, c58, L55, a60, q61, c62, L59⟩⟩ ⟨hq71, hL55, hL59⟩
          subst hq71
          have hqq : q57 = l_15.length := OwnE.qlen hL55
          subst hqq
          have hqq : q61 = l_16.length := OwnE.qlen hL59
          subst hqq
          refine WK.sub (e' := [(1, .slice a_p1 p1.length c_p1), (2, .pointer (some ⟨b1, 0, none⟩)), (4, .slice none 0 0), (5, .slice none 0 0), (6, .int .i64 0), (7, .pointer (some ⟨b13, 0, none⟩)), (9, .slice a56 ((l_15).length) c58), (10, .slice a60 ((l_16).length) c62), (25, .int .i64 p0_1), (26, .int .i64 s_9)]) ⟨rfl, rfl, rfl, rfl, rfl, rfl, rfl, rfl, rfl, rfl, trivial⟩ (WK.cls (C' := St w0 m m9 [[⟨b1, 24, [.int .i64 p0_0, .int .i64 p0_1, .int .i64 p0_2, .slice a_p0_3 p0_3.length c_p0_3]⟩], L7, [⟨b13, 101, [.int .i64 y_1, .int .i64 y_2, .int .i64 y_3, .slice a3 ((y_4).length) c4, .slice a5 ((y_5).length) c6]⟩], L55, L59]) (fun _ h => h) ?_)
          refine WK_blk ?_
          refine WK_region ?_
          refine WO_pure tbok 2 [(1, .slice a_p1 p1.length c_p1), (2, .pointer (some ⟨b1, 0, none⟩)), (4, .slice none 0 0), (5, .slice none 0 0), (6, .int .i64 0), (7, .pointer (some ⟨b13, 0, none⟩)), (9, .slice a56 ((l_15).length) c58), (10, .slice a60 ((l_16).length) c62), (25, .int .i64 p0_1), (26, .int .i64 (w64 (s_9 + 1)))] rfl ⟨rfl, rfl, rfl, rfl, rfl, rfl, rfl, rfl, rfl, rfl, trivial⟩ ?_
          refine WO_end ?_
          cases hm34
          refine WK.sub ?_ (WK.cls (fun _ h => h) (hn37 _ (a56, _, c58, L55, a60, _, c62, L59) rfl ⟨hL55, hL59⟩))
          exact ⟨rfl, rfl, rfl, rfl, rfl, rfl, rfl, rfl, rfl, rfl, trivial⟩
        · refine WK_block ?_
          refine WK_loop (S := List (Int × Int) × List Int × Int) (G := Option Addr × Nat × Nat × List Ent × Option Addr × Nat × Nat × List Ent) (fun s => descriptor_All_s2 p0_0 p1 y_1 y_2 y_3 y_4 y_5 s_9 s.1 s.2.1 s.2.2) (fun s g => [(1, .slice a_p1 p1.length c_p1), (2, .pointer (some ⟨b1, 0, none⟩)), (4, .slice none 0 0), (5, .slice none 0 0), (6, .int .i64 0), (7, .pointer (some ⟨b13, 0, none⟩)), (9, .slice g.1 g.2.1 g.2.2.1), (10, .slice g.2.2.2.2.1 g.2.2.2.2.2.1 g.2.2.2.2.2.2.1), (11, .int .i64 s_9), (25, .int .i64 p0_1), (26, .int .i64 s_9), (30, .int .i64 p0_0), (31, .int .i64 s.2.2)]) (fun s g => St w0 m m9 [[⟨b1, 24, [.int .i64 p0_0, .int .i64 p0_1, .int .i64 p0_2, .slice a_p0_3 p0_3.length c_p0_3]⟩], L7, [⟨b13, 101, [.int .i64 y_1, .int .i64 y_2, .int .i64 y_3, .slice a3 ((y_4).length) c4, .slice a5 ((y_5).length) c6]⟩], g.2.2.2.1, g.2.2.2.2.2.2.2]) (fun s g => OwnE 67 2 T2 (.slice g.1 g.2.1 g.2.2.1) s.1 g.2.2.2.1 ∧ OwnE 95 1 (I1 .u64) (.slice g.2.2.2.2.1 g.2.2.2.2.2.1 g.2.2.2.2.2.2.1) s.2.1 g.2.2.2.2.2.2.2) FUEL (l_7, l_8, 0) (a16, _, c18, L15, a20, _, c22, L19) x63 hx64 ⟨hL15, hL19⟩ ⟨rfl, rfl, rfl, rfl, rfl, rfl, rfl, rfl, rfl, rfl, rfl, rfl, rfl, trivial⟩ (fun _ h => h) ?_
          rintro ⟨l_12, l_13, s_14⟩ ⟨a48, q49, c50, L47, a52, q53, c54, L51⟩ o67 fl68 hm66 ⟨hL47, hL51⟩ hn69 hd70
          have hm66 : descriptor_All_s2 p0_0 p1 y_1 y_2 y_3 y_4 y_5 s_9 l_12 l_13 s_14 = some o67 := hm66
          unfold descriptor_All_s2 at hm66
          have hqq : q49 = l_12.length := OwnE.qlen hL47
          subst hqq
          have hqq : q53 = l_13.length := OwnE.qlen hL51
          subst hqq
          refine WK.sub (e' := [(1, .slice a_p1 p1.length c_p1), (2, .pointer (some ⟨b1, 0, none⟩)), (4, .slice none 0 0), (5, .slice none 0 0), (6, .int .i64 0), (7, .pointer (some ⟨b13, 0, none⟩)), (9, .slice a48 ((l_12).length) c50), (10, .slice a52 ((l_13).length) c54), (11, .int .i64 s_9), (25, .int .i64 p0_1), (26, .int .i64 s_9), (30, .int .i64 p0_0), (31, .int .i64 s_14)]) ⟨rfl, rfl, rfl, rfl, rfl, rfl, rfl, rfl, rfl, rfl, rfl, rfl, rfl, trivial⟩ (WK.cls (C' := St w0 m m9 [[⟨b1, 24, [.int .i64 p0_0, .int .i64 p0_1, .int .i64 p0_2, .slice a_p0_3 p0_3.length c_p0_3]⟩], L7, [⟨b13, 101, [.int .i64 y_1, .int .i64 y_2, .int .i64 y_3, .slice a3 ((y_4).length) c4, .slice a5 ((y_5).length) c6]⟩], L47, L51]) (fun _ h => h) ?_)
          refine WK_seq ?_
          refine WK_region ?_
          refine WO_pure tbok 1 [(1, .slice a_p1 p1.length c_p1), (2, .pointer (some ⟨b1, 0, none⟩)), (4, .slice none 0 0), (5, .slice none 0 0), (6, .int .i64 0), (7, .pointer (some ⟨b13, 0, none⟩)), (9, .slice a48 ((l_12).length) c50), (10, .slice a52 ((l_13).length) c54), (11, .int .i64 s_9), (25, .int .i64 p0_1), (26, .int .i64 s_9), (30, .int .i64 p0_0), (31, .int .i64 s_14), (32, .bool (decide (s_14 < p0_0)))] rfl ⟨rfl, rfl, rfl, rfl, rfl, rfl, rfl, rfl, rfl, rfl, rfl, rfl, rfl, rfl, trivial⟩ ?_
          refine WO_end ?_
          refine WK_seq ?_
          refine WK_cond (b := decide (s_14 < p0_0)) rfl (fun hb72 => ?_) (fun hb72 => ?_)
          · have hm66 := ifT hb72 hm66
            refine WK_skip ?_
            refine WK_seq ?_
            refine WK_block ?_
            refine WK_seq ?_
            refine WK_region ?_
            refine WO_pure tbok 2 [(1, .slice a_p1 p1.length c_p1), (2, .pointer (some ⟨b1, 0, none⟩)), (4, .slice none 0 0), (5, .slice none 0 0), (6, .int .i64 0), (7, .pointer (some ⟨b13, 0, none⟩)), (9, .slice a48 ((l_12).length) c50), (10, .slice a52 ((l_13).length) c54), (11, .int .i64 s_9), (12, .int .i64 s_14), (25, .int .i64 p0_1), (26, .int .i64 s_9), (30, .int .i64 p0_0), (31, .int .i64 s_14)] rfl ⟨rfl, rfl, rfl, rfl, rfl, rfl, rfl, rfl, rfl, rfl, rfl, rfl, rfl, rfl, trivial⟩ ?_
            refine WO_end ?_
            refine WK_seq ?_
            refine WK_region ?_
            refine WO_loadB tbok 2 rfl rfl rfl rfl (fun _ h => h) rfl rfl ?_
            refine WO_pure tbok 3 [(1, .slice a_p1 p1.length c_p1), (2, .pointer (some ⟨b1, 0, none⟩)), (4, .slice none 0 0), (5, .slice none 0 0), (6, .int .i64 0), (7, .pointer (some ⟨b13, 0, none⟩)), (9, .slice a48 ((l_12).length) c50), (10, .slice a52 ((l_13).length) c54), (11, .int .i64 s_9), (12, .int .i64 s_14), (25, .int .i64 p0_1), (26, .int .i64 s_9), (30, .int .i64 p0_0), (31, .int .i64 s_14), (35, .agg #[.int .i64 y_1, .int .i64 y_2, .int .i64 y_3, .slice a3 ((y_4).length) c4, .slice a5 ((y_5).length) c6]), (36, .slice a_p1 p1.length c_p1), (37, .int .i64 s_14), (38, .int .i64 s_9)] rfl ⟨rfl, rfl, rfl, rfl, rfl, rfl, rfl, rfl, rfl, rfl, rfl, rfl, rfl, rfl, rfl, rfl, rfl, rfl, trivial⟩ ?_
            obtain ⟨⟨y_17, y_18⟩, hc73, hm66⟩ := bind_some hm66
            refine WO_call0 (.tuple #[.int .u64 y_17, .bool y_18]) rfl rfl trivial rfl rfl rfl rfl St_closed ⟨55, #[], #[], rfl, callable_55, fun w hw => ⟨_, hw.sat, fiducial_descriptor_image_word_walk h11 h12 (h_p1.mono (mono_FE _) hle10) hc73⟩⟩ ?_
            refine WO_pure tbok 5 [(1, .slice a_p1 p1.length c_p1), (2, .pointer (some ⟨b1, 0, none⟩)), (4, .slice none 0 0), (5, .slice none 0 0), (6, .int .i64 0), (7, .pointer (some ⟨b13, 0, none⟩)), (9, .slice a48 ((l_12).length) c50), (10, .slice a52 ((l_13).length) c54), (11, .int .i64 s_9), (12, .int .i64 s_14), (13, .int .u64 y_17), (14, .bool y_18), (25, .int .i64 p0_1), (26, .int .i64 s_9), (30, .int .i64 p0_0), (31, .int .i64 s_14)] rfl ⟨rfl, rfl, rfl, rfl, rfl, rfl, rfl, rfl, rfl, rfl, rfl, rfl, rfl, rfl, rfl, rfl, trivial⟩ ?_
            refine WO_end ?_
            refine WK_seq ?_
            refine WK_region ?_
            refine WO_pure tbok 1 [(1, .slice a_p1 p1.length c_p1), (2, .pointer (some ⟨b1, 0, none⟩)), (4, .slice none 0 0), (5, .slice none 0 0), (6, .int .i64 0), (7, .pointer (some ⟨b13, 0, none⟩)), (9, .slice a48 ((l_12).length) c50), (10, .slice a52 ((l_13).length) c54), (11, .int .i64 s_9), (12, .int .i64 s_14), (13, .int .u64 y_17), (25, .int .i64 p0_1), (26, .int .i64 s_9), (30, .int .i64 p0_0), (31, .int .i64 s_14), (42, .bool y_18)] rfl ⟨rfl, rfl, rfl, rfl, rfl, rfl, rfl, rfl, rfl, rfl, rfl, rfl, rfl, rfl, rfl, rfl, trivial⟩ ?_
            refine WO_end ?_
            obtain ⟨⟨l_19, l_20⟩, hx82, hm66⟩ := bind_some hm66
            refine WK_join (β := Option Addr × Nat × Nat × List Ent × Option Addr × Nat × Nat × List Ent) (fun p => OwnE 67 2 T2 (.slice p.1 p.2.1 p.2.2.1) l_19 p.2.2.2.1 ∧ OwnE 95 1 (I1 .u64) (.slice p.2.2.2.2.1 p.2.2.2.2.2.1 p.2.2.2.2.2.2.1) l_20 p.2.2.2.2.2.2.2) (fun p => [(1, .slice a_p1 p1.length c_p1), (2, .pointer (some ⟨b1, 0, none⟩)), (4, .slice none 0 0), (5, .slice none 0 0), (6, .int .i64 0), (7, .pointer (some ⟨b13, 0, none⟩)), (9, .slice p.1 p.2.1 p.2.2.1), (10, .slice p.2.2.2.2.1 p.2.2.2.2.2.1 p.2.2.2.2.2.2.1), (11, .int .i64 s_9), (25, .int .i64 p0_1), (26, .int .i64 s_9), (30, .int .i64 p0_0), (31, .int .i64 s_14)]) (fun p => St w0 m m9 [[⟨b1, 24, [.int .i64 p0_0, .int .i64 p0_1, .int .i64 p0_2, .slice a_p0_3 p0_3.length c_p0_3]⟩], L7, [⟨b13, 101, [.int .i64 y_1, .int .i64 y_2, .int .i64 y_3, .slice a3 ((y_4).length) c4, .slice a5 ((y_5).length) c6]⟩], p.2.2.2.1, p.2.2.2.2.2.2.2]) ?_ (fun hk83 => ?_)
            · rintro ⟨a75, q76, c77, L74, a79, q80, c81, L78⟩ ⟨hL74, hL78⟩
              have hqq : q76 = l_19.length := OwnE.qlen hL74
              subst hqq
              have hqq : q80 = l_20.length := OwnE.qlen hL78
              subst hqq
              refine WK.sub (e' := [(1, .slice a_p1 p1.length c_p1), (2, .pointer (some ⟨b1, 0, none⟩)), (4, .slice none 0 0), (5, .slice none 0 0), (6, .int .i64 0), (7, .pointer (some ⟨b13, 0, none⟩)), (9, .slice a75 ((l_19).length) c77), (10, .slice a79 ((l_20).length) c81), (11, .int .i64 s_9), (25, .int .i64 p0_1), (26, .int .i64 s_9), (30, .int .i64 p0_0), (31, .int .i64 s_14)]) ⟨rfl, rfl, rfl, rfl, rfl, rfl, rfl, rfl, rfl, rfl, rfl, rfl, rfl, trivial⟩ (WK.cls (C' := St w0 m m9 [[⟨b1, 24, [.int .i64 p0_0, .int .i64 p0_1, .int .i64 p0_2, .slice a_p0_3 p0_3.length c_p0_3]⟩], L7, [⟨b13, 101, [.int .i64 y_1, .int .i64 y_2, .int .i64 y_3, .slice a3 ((y_4).length) c4, .slice a5 ((y_5).length) c6]⟩], L74, L78]) (fun _ h => h) ?_)
              refine WK_blk ?_
              refine WK_region ?_
              refine WO_pure tbok 2 [(1, .slice a_p1 p1.length c_p1), (2, .pointer (some ⟨b1, 0, none⟩)), (4, .slice none 0 0), (5, .slice none 0 0), (6, .int .i64 0), (7, .pointer (some ⟨b13, 0, none⟩)), (9, .slice a75 ((l_19).length) c77), (10, .slice a79 ((l_20).length) c81), (11, .int .i64 s_9), (25, .int .i64 p0_1), (26, .int .i64 s_9), (30, .int .i64 p0_0), (31, .int .i64 (w64 (s_14 + 1)))] rfl ⟨rfl, rfl, rfl, rfl, rfl, rfl, rfl, rfl, rfl, rfl, rfl, rfl, rfl, trivial⟩ ?_
              refine WO_end ?_
              cases hm66
              refine WK.sub ?_ (WK.cls (fun _ h => h) (hn69 _ (a75, _, c77, L74, a79, _, c81, L78) rfl ⟨hL74, hL78⟩))
              exact ⟨rfl, rfl, rfl, rfl, rfl, rfl, rfl, rfl, rfl, rfl, rfl, rfl, rfl, trivial⟩
            · refine WK_cond (b := y_18) rfl (fun hb84 => ?_) (fun hb84 => ?_)
              · have hx82 := ifT hb84 hx82
                refine WK_region ?_
                refine WO_pure tbok 4 [(1, .slice a_p1 p1.length c_p1), (2, .pointer (some ⟨b1, 0, none⟩)), (4, .slice none 0 0), (5, .slice none 0 0), (6, .int .i64 0), (7, .pointer (some ⟨b13, 0, none⟩)), (9, .slice a48 ((l_12).length) c50), (10, .slice a52 ((l_13).length) c54), (11, .int .i64 s_9), (13, .int .u64 y_17), (25, .int .i64 p0_1), (26, .int .i64 s_9), (30, .int .i64 p0_0), (31, .int .i64 s_14), (43, .slice a48 ((l_12).length) c50), (46, .agg #[.int .i64 s_14, .int .i64 s_9])] rfl ⟨rfl, rfl, rfl, rfl, rfl, rfl, rfl, rfl, rfl, rfl, rfl, rfl, rfl, rfl, rfl, rfl, trivial⟩ ?_
                refine WO_bslice (E := T2) tbok (fun _ => rfl) (by decide) [.agg #[.int .i64 s_14, .int .i64 s_9]] ([(s_14, s_9)] : List (Int × Int)) rfl rfl trivial rfl rfl rfl rfl rfl rfl rfl rfl rfl rfl rfl rfl (fun b85 hb85 => ?_)
                refine WO.cls (C' := St w0 m m9 [[⟨b1, 24, [.int .i64 p0_0, .int .i64 p0_1, .int .i64 p0_2, .slice a_p0_3 p0_3.length c_p0_3]⟩], L7, [⟨b13, 101, [.int .i64 y_1, .int .i64 y_2, .int .i64 y_3, .slice a3 ((y_4).length) c4, .slice a5 ((y_5).length) c6]⟩], L47, L51, [⟨b85, 67, ([(s_14, s_9)] : List (Int × Int)).flatMap T2⟩]]) (fun _ h => h) ?_
                obtain ⟨hc86, hx82⟩ := chk_some hx82
                refine WO_append (E := T2) tbok (fun _ => rfl) 3 ([(s_14, s_9)] : List (Int × Int)) (fun _ _ => rfl) rfl rfl rfl rfl rfl rfl rfl rfl rfl rfl rfl rfl hL47 rfl (src_seg (j := 5) rfl) (ap_ok (by decide) hc86) (ap_max hc86) (fun a87 c88 L89 hL89 => ?_)
                refine WO.cls (C' := St w0 m m9 [[⟨b1, 24, [.int .i64 p0_0, .int .i64 p0_1, .int .i64 p0_2, .slice a_p0_3 p0_3.length c_p0_3]⟩], L7, [⟨b13, 101, [.int .i64 y_1, .int .i64 y_2, .int .i64 y_3, .slice a3 ((y_4).length) c4, .slice a5 ((y_5).length) c6]⟩], L89, L51, [⟨b85, 67, ([(s_14, s_9)] : List (Int × Int)).flatMap T2⟩]]) (fun _ h => h) ?_
                refine WO_pure tbok 2 [(1, .slice a_p1 p1.length c_p1), (2, .pointer (some ⟨b1, 0, none⟩)), (4, .slice none 0 0), (5, .slice none 0 0), (6, .int .i64 0), (7, .pointer (some ⟨b13, 0, none⟩)), (9, .slice a48 ((l_12).length) c50), (10, .slice a52 ((l_13).length) c54), (11, .int .i64 s_9), (25, .int .i64 p0_1), (26, .int .i64 s_9), (30, .int .i64 p0_0), (31, .int .i64 s_14), (48, .slice a87 ((l_12 ++ ([(s_14, s_9)] : List (Int × Int))).length) c88), (49, .slice a52 ((l_13).length) c54), (50, .int .u64 y_17)] rfl ⟨rfl, rfl, rfl, rfl, rfl, rfl, rfl, rfl, rfl, rfl, rfl, rfl, rfl, rfl, rfl, rfl, trivial⟩ ?_
                refine WO_bslice (E := (I1 .u64)) tbok (fun _ => rfl) (by decide) [.int .u64 y_17] ([y_17] : List Int) rfl rfl trivial rfl rfl rfl rfl rfl rfl rfl rfl rfl rfl rfl rfl (fun b90 hb90 => ?_)
                refine WO.cls (C' := St w0 m m9 [[⟨b1, 24, [.int .i64 p0_0, .int .i64 p0_1, .int .i64 p0_2, .slice a_p0_3 p0_3.length c_p0_3]⟩], L7, [⟨b13, 101, [.int .i64 y_1, .int .i64 y_2, .int .i64 y_3, .slice a3 ((y_4).length) c4, .slice a5 ((y_5).length) c6]⟩], L89, L51, [⟨b85, 67, ([(s_14, s_9)] : List (Int × Int)).flatMap T2⟩], [⟨b90, 95, ([y_17] : List Int).flatMap (I1 .u64)⟩]]) (fun _ h => h) ?_
                obtain ⟨hc91, hx82⟩ := chk_some hx82
                refine WO_append (E := (I1 .u64)) tbok (fun _ => rfl) 4 ([y_17] : List Int) (fun _ _ => rfl) rfl rfl rfl rfl rfl rfl rfl rfl rfl rfl rfl rfl hL51 rfl (src_seg (j := 6) rfl) (ap_ok (by decide) hc91) (ap_max hc91) (fun a92 c93 L94 hL94 => ?_)
                refine WO.cls (C' := St w0 m m9 [[⟨b1, 24, [.int .i64 p0_0, .int .i64 p0_1, .int .i64 p0_2, .slice a_p0_3 p0_3.length c_p0_3]⟩], L7, [⟨b13, 101, [.int .i64 y_1, .int .i64 y_2, .int .i64 y_3, .slice a3 ((y_4).length) c4, .slice a5 ((y_5).length) c6]⟩], L89, L94, [⟨b85, 67, ([(s_14, s_9)] : List (Int × Int)).flatMap T2⟩], [⟨b90, 95, ([y_17] : List Int).flatMap (I1 .u64)⟩]]) (fun _ h => h) ?_
                refine WO_pure tbok 2 [(1, .slice a_p1 p1.length c_p1), (2, .pointer (some ⟨b1, 0, none⟩)), (4, .slice none 0 0), (5, .slice none 0 0), (6, .int .i64 0), (7, .pointer (some ⟨b13, 0, none⟩)), (9, .slice a87 ((l_12 ++ ([(s_14, s_9)] : List (Int × Int))).length) c88), (10, .slice a92 ((l_13 ++ ([y_17] : List Int)).length) c93), (11, .int .i64 s_9), (25, .int .i64 p0_1), (26, .int .i64 s_9), (30, .int .i64 p0_0), (31, .int .i64 s_14)] rfl ⟨rfl, rfl, rfl, rfl, rfl, rfl, rfl, rfl, rfl, rfl, rfl, rfl, rfl, trivial⟩ ?_
                refine WO_end ?_
                cases hx82
                refine WK.sub ?_ (WK.cls (fun _ h => St.take 5 h) (hk83 ⟨a87, (l_12 ++ ([(s_14, s_9)] : List (Int × Int))).length, c88, L89, a92, (l_13 ++ ([y_17] : List Int)).length, c93, L94⟩ ⟨hL89, hL94⟩))
                exact ⟨rfl, rfl, rfl, rfl, rfl, rfl, rfl, rfl, rfl, rfl, rfl, rfl, rfl, trivial⟩
              · have hx82 := ifF hb84 hx82
                refine WK_skip ?_
                cases hx82
                refine WK.sub ?_ (WK.cls (fun _ h => h) (hk83 ⟨a48, _, c50, L47, a52, _, c54, L51⟩ ⟨hL47, hL51⟩))
                exact ⟨rfl, rfl, rfl, rfl, rfl, rfl, rfl, rfl, rfl, rfl, rfl, rfl, rfl, trivial⟩
          · have hm66 := ifF hb72 hm66
            refine WK_exit rfl ?_
            cases hm66
            refine WK.sub ?_ (WK.cls (fun _ h => h) (hk65 ((l_12, l_13), (a48, _, c50, L47, a52, _, c54, L51)) ⟨(hd70 _ rfl), hL47, hL51⟩))
            exact ⟨rfl, rfl, rfl, rfl, rfl, rfl, rfl, rfl, rfl, rfl, trivial⟩
      · have hm34 := ifF hb46 hm34
        refine WK_exit rfl ?_
        cases hm34
        refine WK.sub ?_ (WK.cls (fun _ h => h) (hk33 ((l_7, l_8), (a16, _, c18, L15, a20, _, c22, L19)) ⟨(hd38 _ rfl), hL15, hL19⟩))
        exact ⟨rfl, rfl, rfl, rfl, rfl, trivial⟩
end Go.Proofs.Ytbolefkhmfbnlaa
