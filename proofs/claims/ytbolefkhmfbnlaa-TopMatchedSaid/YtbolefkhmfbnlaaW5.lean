import Derived.Test.YtbolefkhmfbnlaaTab
import Derived.Test.YtbolefkhmfbnlaaM
import Derived.Test.YtbolefkhmfbnlaaIt
import Derived.Test.YtbolefkhmfbnlaaW4
set_option linter.unusedVariables false
set_option maxRecDepth 100000
set_option maxHeartbeats 4000000
namespace Go.Proofs.Ytbolefkhmfbnlaa
open Go.E Go.RowKit
attribute [local irreducible] Go.E.WO Go.E.WK
theorem descriptor_turned_walk {m : Mu} {p0_0 : Int} {p0_1 : Int} {p0_2 : Int} {p0_3 : Int}   {r : Int × Int × Int × Int} (hm : descriptor_turned p0_0 p0_1 p0_2 p0_3 = some r) :
    Go.E.Spec Try.prog 57 [.agg #[.int .i64 p0_0, .int .i64 p0_1, .int .i64 p0_2, .int .i64 p0_3]] m (fun v _ _ => v = .agg #[.int .i64 r.1, .int .i64 r.2.1, .int .i64 r.2.2.1, .int .i64 r.2.2.2]) := by
  refine Spec_enter Try.func57 rfl rfl rfl (fun w0 => ?_)
  refine WK.sub (e' := [(0, .agg #[.int .i64 p0_0, .int .i64 p0_1, .int .i64 p0_2, .int .i64 p0_3])]) ⟨rfl, trivial⟩ ?_
  refine WK.sub (e' := [(0, .agg #[.int .i64 p0_0, .int .i64 p0_1, .int .i64 p0_2, .int .i64 p0_3])]) ⟨rfl, trivial⟩ ?_
  unfold descriptor_turned at hm
  refine WK_seq ?_
  refine WK_region ?_
  refine WO_box [.int .i64 p0_0, .int .i64 p0_1, .int .i64 p0_2, .int .i64 p0_3] rfl rfl trivial rfl rfl rfl (fun b1 => ?_)
  refine WO.cls (C' := St w0 m m [[⟨b1, 92, [.int .i64 p0_0, .int .i64 p0_1, .int .i64 p0_2, .int .i64 p0_3]⟩]]) (fun _ h => h) ?_
  refine WO_alloc tbok [.int .i64 0, .int .i64 0, .int .i64 0, .int .i64 0] rfl rfl trivial rfl rfl rfl rfl (fun b2 => ?_)
  refine WO.cls (C' := St w0 m m [[⟨b1, 92, [.int .i64 p0_0, .int .i64 p0_1, .int .i64 p0_2, .int .i64 p0_3]⟩], [⟨b2, 92, [.int .i64 0, .int .i64 0, .int .i64 0, .int .i64 0]⟩]]) (fun _ h => h) ?_
  refine WO_end ?_
  refine WK_seq ?_
  refine WK_region ?_
  refine WO_pure tbok 1 [(1, .pointer (some ⟨b1, 0, none⟩)), (2, .pointer (some ⟨b2, 0, none⟩)), (3, .pointer (some ⟨b1, 1, none⟩))] rfl ⟨rfl, rfl, rfl, trivial⟩ ?_
  refine WO_loadB tbok 0 rfl rfl rfl rfl (fun _ h => h) rfl rfl ?_
  refine WO_pure tbok 1 [(1, .pointer (some ⟨b1, 0, none⟩)), (2, .pointer (some ⟨b2, 0, none⟩)), (4, .int .i64 p0_1), (5, .pointer (some ⟨b1, 0, none⟩))] rfl ⟨rfl, rfl, rfl, rfl, trivial⟩ ?_
  refine WO_loadB tbok 0 rfl rfl rfl rfl (fun _ h => h) rfl rfl ?_
  refine WO_pure tbok 2 [(1, .pointer (some ⟨b1, 0, none⟩)), (2, .pointer (some ⟨b2, 0, none⟩)), (4, .int .i64 p0_1), (7, .int .i64 (w64 (1 - p0_0))), (8, .pointer (some ⟨b1, 2, none⟩))] rfl ⟨rfl, rfl, rfl, rfl, rfl, trivial⟩ ?_
  refine WO_loadB tbok 0 rfl rfl rfl rfl (fun _ h => h) rfl rfl ?_
  refine WO_pure tbok 2 [(1, .pointer (some ⟨b1, 0, none⟩)), (2, .pointer (some ⟨b2, 0, none⟩)), (4, .int .i64 p0_1), (10, .int .i64 (w64 ((w64 (1 - p0_0)) - p0_2))), (11, .pointer (some ⟨b1, 3, none⟩))] rfl ⟨rfl, rfl, rfl, rfl, rfl, trivial⟩ ?_
  refine WO_loadB tbok 0 rfl rfl rfl rfl (fun _ h => h) rfl rfl ?_
  refine WO_pure tbok 1 [(2, .pointer (some ⟨b2, 0, none⟩)), (4, .int .i64 p0_1), (10, .int .i64 (w64 ((w64 (1 - p0_0)) - p0_2))), (12, .int .i64 p0_3), (13, .pointer (some ⟨b1, 2, none⟩))] rfl ⟨rfl, rfl, rfl, rfl, rfl, trivial⟩ ?_
  refine WO_loadB tbok 0 rfl rfl rfl rfl (fun _ h => h) rfl rfl ?_
  refine WO_pure tbok 1 [(2, .pointer (some ⟨b2, 0, none⟩)), (15, .agg #[.int .i64 p0_1, .int .i64 (w64 ((w64 (1 - p0_0)) - p0_2)), .int .i64 p0_3, .int .i64 p0_2])] rfl ⟨rfl, rfl, trivial⟩ ?_
  refine WO_storeB tbok 1 [.int .i64 p0_1, .int .i64 (w64 ((w64 (1 - p0_0)) - p0_2)), .int .i64 p0_3, .int .i64 p0_2] rfl rfl rfl rfl rfl rfl rfl ?_
  refine WO.cls (C' := St w0 m m [[⟨b1, 92, [.int .i64 p0_0, .int .i64 p0_1, .int .i64 p0_2, .int .i64 p0_3]⟩], [⟨b2, 92, [.int .i64 p0_1, .int .i64 (w64 ((w64 (1 - p0_0)) - p0_2)), .int .i64 p0_3, .int .i64 p0_2]⟩]]) (fun _ h => h) ?_
  refine WO_end ?_
  cases hm
  exact WK_ret (ret_out (L := []) (RLc_cell tbok 1 rfl rfl rfl RLc_nil) (List.nil_sublist _) rfl)
def descriptor_Turned_Q (r : List (Int × Int × Int × Int × Int × Int × Int × Int) × Int) : Value → List Ent → Prop := fun v L => ∃ (a0 : Option Addr) (q0 c0 : Nat), v = .tuple #[.slice a0 q0 c0, .int .i64 r.2] ∧ OwnE 94 8 T8 (.slice a0 q0 c0) r.1 L
theorem descriptor_Turned_walk {m : Mu} {p0 : List (Int × Int × Int × Int × Int × Int × Int × Int)} {a_p0 : Option Addr} {q_p0 c_p0 : Nat} (h_p0 : SlR (FE T8) 8 m (.slice a_p0 q_p0 c_p0) p0) {r : List (Int × Int × Int × Int × Int × Int × Int × Int) × Int} (hm : descriptor_Turned p0 = some r) :
    Go.E.Spec Try.prog 23 [.slice a_p0 q_p0 c_p0] m (fun v _ L => descriptor_Turned_Q r v L) := by
  refine Spec_enter Try.func23 rfl rfl rfl (fun w0 => ?_)
  refine WK.sub (e' := [(0, .slice a_p0 q_p0 c_p0)]) ⟨rfl, trivial⟩ ?_
  obtain rfl := SlR.qlen h_p0
  refine WK.sub (e' := [(0, .slice a_p0 p0.length c_p0)]) ⟨rfl, trivial⟩ ?_
  unfold descriptor_Turned at hm
  refine WK_seq ?_
  refine WK_region ?_
  refine WO_pure tbok 2 [(0, .slice a_p0 p0.length c_p0), (2, .slice none 0 0), (3, .int .i64 0)] rfl ⟨rfl, rfl, rfl, trivial⟩ ?_
  refine WO_end ?_
  refine WK_seq ?_
  refine WK_seq ?_
  refine WK_region ?_
  refine WO_pure tbok 1 [(0, .slice a_p0 p0.length c_p0), (2, .slice none 0 0), (3, .int .i64 0), (8, .slice a_p0 p0.length c_p0)] rfl ⟨rfl, rfl, rfl, rfl, trivial⟩ ?_
  obtain ⟨y_1, hc1, hm⟩ := bind_some hm
  refine WO_call0 (.int .i64 y_1) rfl rfl trivial rfl rfl rfl rfl St_closed ⟨20, #[], #[], rfl, callable_20, fun w hw => ⟨_, hw.sat, descriptor_Check_walk h_p0 hc1⟩⟩ ?_
  refine WO_pure tbok 1 [(0, .slice a_p0 p0.length c_p0), (2, .slice none 0 0), (3, .int .i64 0), (4, .int .i64 y_1)] rfl ⟨rfl, rfl, rfl, rfl, trivial⟩ ?_
  refine WO_end ?_
  refine WK_seq ?_
  refine WK_region ?_
  refine WO_pure tbok 2 [(0, .slice a_p0 p0.length c_p0), (2, .slice none 0 0), (3, .int .i64 0), (4, .int .i64 y_1), (11, .bool (y_1 != 0))] rfl ⟨rfl, rfl, rfl, rfl, rfl, trivial⟩ ?_
  refine WO_end ?_
  refine WK_cond (b := y_1 != 0) rfl (fun hb2 => ?_) (fun hb2 => ?_)
  · have hm := ifT hb2 hm
    refine WK_seq ?_
    refine WK_region ?_
    refine WO_pure tbok 3 [(0, .slice a_p0 p0.length c_p0), (2, .slice none 0 0), (3, .int .i64 y_1)] rfl ⟨rfl, rfl, rfl, trivial⟩ ?_
    refine WO_end ?_
    cases hm
    exact WK_ret (ret_out (L := []) (RLc_tmp rfl (RLc_tmp rfl RLc_nil)) (List.nil_sublist _) ⟨none, 0, 0, rfl, (OwnE.nil none)⟩)
  · have hm := ifF hb2 hm
    refine WK_skip ?_
    refine WK_seq ?_
    refine WK_region ?_
    refine WO_pure tbok 1 [(0, .slice a_p0 p0.length c_p0), (2, .slice none 0 0), (3, .int .i64 0), (5, .slice none 0 0)] rfl ⟨rfl, rfl, rfl, rfl, trivial⟩ ?_
    refine WO_end ?_
    refine WK_seq ?_
    refine WK_seq ?_
    refine WK_region ?_
    refine WO_pure tbok 3 [(2, .slice none 0 0), (3, .int .i64 0), (5, .slice none 0 0), (13, .slice a_p0 p0.length c_p0), (14, .int .i64 (p0.length : Int)), (15, .int .i64 0)] rfl ⟨rfl, rfl, rfl, rfl, rfl, rfl, trivial⟩ ?_
    refine WO_end ?_
    refine WK_pad ?_
    obtain ⟨x11, hx12, hm⟩ := bind_some hm
    refine WK_join (β := (List (Int × Int × Int × Int × Int × Int × Int × Int)) × (Option Addr × Nat × Nat × List Ent)) (fun p => p.1 = x11 ∧ OwnE 94 8 T8 (.slice p.2.1 p.2.2.1 p.2.2.2.1) p.1 p.2.2.2.2) (fun p => [(2, .slice none 0 0), (3, .int .i64 0), (5, .slice p.2.1 p.2.2.1 p.2.2.2.1)]) (fun p => St w0 m m [p.2.2.2.2]) ?_ (fun hk13 => ?_)
    · rintro ⟨l_4, ⟨a8, q9, c10, L7⟩⟩ ⟨hq19, hL7⟩
      subst hq19
      have hqq : q9 = l_4.length := OwnE.qlen hL7
      subst hqq
      refine WK.sub (e' := [(2, .slice none 0 0), (3, .int .i64 0), (5, .slice a8 ((l_4).length) c10)]) ⟨rfl, rfl, rfl, trivial⟩ (WK.cls (C' := St w0 m m [L7]) (fun _ h => h) ?_)
      refine WK_seq ?_
      refine WK_region ?_
      refine WO_pure tbok 3 [(2, .slice a8 ((l_4).length) c10), (3, .int .i64 0)] rfl ⟨rfl, rfl, trivial⟩ ?_
      refine WO_end ?_
      cases hm
      exact WK_ret (ret_out (L := L7) (RLc_tmp rfl (RLc_tmp rfl RLc_nil)) (seg_sub 0 rfl) ⟨a8, _, c10, rfl, hL7⟩)
    · refine WK_block ?_
      refine WK_loop (S := List (Int × Int × Int × Int × Int × Int × Int × Int) × Int) (G := Option Addr × Nat × Nat × List Ent) (fun s => descriptor_Turned_s1 p0 s.1 s.2) (fun s g => [(2, .slice none 0 0), (3, .int .i64 0), (5, .slice g.1 g.2.1 g.2.2.1), (13, .slice a_p0 p0.length c_p0), (14, .int .i64 (p0.length : Int)), (15, .int .i64 s.2)]) (fun s g => St w0 m m [g.2.2.2]) (fun s g => OwnE 94 8 T8 (.slice g.1 g.2.1 g.2.2.1) s.1 g.2.2.2) FUEL (([] : List (Int × Int × Int × Int × Int × Int × Int × Int)), 0) (none, 0, 0, []) x11 hx12 (OwnE.nil (T := 94) (k := 8) (E := T8) none) ⟨rfl, rfl, rfl, rfl, rfl, rfl, trivial⟩ (fun _ h => h) ?_
      rintro ⟨l_2, s_3⟩ ⟨a4, q5, c6, L3⟩ o15 fl16 hm14 hL3 hn17 hd18
      have hm14 : descriptor_Turned_s1 p0 l_2 s_3 = some o15 := hm14
      unfold descriptor_Turned_s1 at hm14
      have hqq : q5 = l_2.length := OwnE.qlen hL3
      subst hqq
      refine WK.sub (e' := [(2, .slice none 0 0), (3, .int .i64 0), (5, .slice a4 ((l_2).length) c6), (13, .slice a_p0 p0.length c_p0), (14, .int .i64 (p0.length : Int)), (15, .int .i64 s_3)]) ⟨rfl, rfl, rfl, rfl, rfl, rfl, trivial⟩ (WK.cls (C' := St w0 m m [L3]) (fun _ h => h) ?_)
      refine WK_seq ?_
      refine WK_region ?_
      refine WO_pure tbok 1 [(2, .slice none 0 0), (3, .int .i64 0), (5, .slice a4 ((l_2).length) c6), (13, .slice a_p0 p0.length c_p0), (14, .int .i64 (p0.length : Int)), (15, .int .i64 s_3), (16, .bool (decide (s_3 < (p0.length : Int))))] rfl ⟨rfl, rfl, rfl, rfl, rfl, rfl, rfl, trivial⟩ ?_
      refine WO_end ?_
      refine WK_seq ?_
      refine WK_cond (b := decide (s_3 < (p0.length : Int))) rfl (fun hb20 => ?_) (fun hb20 => ?_)
      · have hm14 := ifT hb20 hm14
        refine WK_skip ?_
        refine WK_seq ?_
        refine WK_block ?_
        refine WK_seq ?_
        refine WK_region ?_
        obtain ⟨v_5, hy21, hm14⟩ := bind_some hm14
        obtain ⟨hc22, hy21⟩ := ix_some hy21
        refine WO_index tbok rfl rfl rfl rfl rfl rfl rfl rfl (SlR.addr h_p0) hc22 ?_
        refine WO_loadE tbok rfl rfl rfl rfl (fun _ h => St.sat h) h_p0 hy21 rfl ?_
        refine WO_alloc tbok [.int .i64 0, .int .i64 0, .int .i64 0, .int .i64 0, .int .i64 0, .int .i64 0, .int .i64 0, .int .i64 0] rfl rfl trivial rfl rfl rfl rfl (fun b23 => ?_)
        refine WO.cls (C' := St w0 m m [L3, [⟨b23, 94, [.int .i64 0, .int .i64 0, .int .i64 0, .int .i64 0, .int .i64 0, .int .i64 0, .int .i64 0, .int .i64 0]⟩]]) (fun _ h => h) ?_
        refine WO_storeB tbok 1 [.int .i64 v_5.1, .int .i64 v_5.2.1, .int .i64 v_5.2.2.1, .int .i64 v_5.2.2.2.1, .int .i64 v_5.2.2.2.2.1, .int .i64 v_5.2.2.2.2.2.1, .int .i64 v_5.2.2.2.2.2.2.1, .int .i64 v_5.2.2.2.2.2.2.2] rfl rfl rfl rfl rfl rfl rfl ?_
        refine WO.cls (C' := St w0 m m [L3, [⟨b23, 94, [.int .i64 v_5.1, .int .i64 v_5.2.1, .int .i64 v_5.2.2.1, .int .i64 v_5.2.2.2.1, .int .i64 v_5.2.2.2.2.1, .int .i64 v_5.2.2.2.2.2.1, .int .i64 v_5.2.2.2.2.2.2.1, .int .i64 v_5.2.2.2.2.2.2.2]⟩]]) (fun _ h => h) ?_
        refine WO_end ?_
        refine WK_draw 9 [0, 1, 2, 4, 5, 3, 6, 7, 8] follows_ok (by kernel_rfl) St_closed ?_
        refine WO_pure tbok 2 [(2, .slice none 0 0), (3, .int .i64 0), (5, .slice a4 ((l_2).length) c6), (7, .pointer (some ⟨b23, 0, none⟩)), (13, .slice a_p0 p0.length c_p0), (14, .int .i64 (p0.length : Int)), (15, .int .i64 s_3), (19, .slice a4 ((l_2).length) c6), (20, .pointer (some ⟨b23, 0, none⟩))] rfl ⟨rfl, rfl, rfl, rfl, rfl, rfl, rfl, rfl, rfl, trivial⟩ ?_
        refine WO_loadB tbok 1 rfl rfl rfl rfl (fun _ h => h) rfl rfl ?_
        refine WO_pure tbok 1 [(2, .slice none 0 0), (3, .int .i64 0), (5, .slice a4 ((l_2).length) c6), (13, .slice a_p0 p0.length c_p0), (14, .int .i64 (p0.length : Int)), (15, .int .i64 s_3), (19, .slice a4 ((l_2).length) c6), (21, .agg #[.int .i64 v_5.1, .int .i64 v_5.2.1, .int .i64 v_5.2.2.1, .int .i64 v_5.2.2.2.1]), (23, .pointer (some ⟨b23, 4, none⟩))] rfl ⟨rfl, rfl, rfl, rfl, rfl, rfl, rfl, rfl, rfl, trivial⟩ ?_
        refine WO_loadB tbok 1 rfl rfl rfl rfl (fun _ h => h) rfl rfl ?_
        obtain ⟨⟨y_6, y_7, y_8, y_9⟩, hc24, hm14⟩ := bind_some hm14
        refine WO_call0 (.agg #[.int .i64 y_6, .int .i64 y_7, .int .i64 y_8, .int .i64 y_9]) rfl rfl St_closed rfl rfl rfl rfl St_closed ⟨57, #[], #[], rfl, callable_57, fun w hw => ⟨_, hw.sat, descriptor_turned_walk hc24⟩⟩ ?_
        obtain ⟨⟨y_10, y_11, y_12, y_13⟩, hc25, hm14⟩ := bind_some hm14
        refine WO_call0 (.agg #[.int .i64 y_10, .int .i64 y_11, .int .i64 y_12, .int .i64 y_13]) rfl rfl St_closed rfl rfl rfl rfl St_closed ⟨57, #[], #[], rfl, callable_57, fun w hw => ⟨_, hw.sat, descriptor_turned_walk hc25⟩⟩ ?_
        refine WO_pure tbok 1 [(2, .slice none 0 0), (3, .int .i64 0), (5, .slice a4 ((l_2).length) c6), (13, .slice a_p0 p0.length c_p0), (14, .int .i64 (p0.length : Int)), (15, .int .i64 s_3), (19, .slice a4 ((l_2).length) c6), (26, .agg #[.int .i64 y_6, .int .i64 y_7, .int .i64 y_8, .int .i64 y_9, .int .i64 y_10, .int .i64 y_11, .int .i64 y_12, .int .i64 y_13])] rfl ⟨rfl, rfl, rfl, rfl, rfl, rfl, rfl, rfl, trivial⟩ ?_
        refine WO_bslice (E := T8) tbok (fun _ => rfl) (by decide) [.agg #[.int .i64 y_6, .int .i64 y_7, .int .i64 y_8, .int .i64 y_9, .int .i64 y_10, .int .i64 y_11, .int .i64 y_12, .int .i64 y_13]] ([(y_6, y_7, y_8, y_9, y_10, y_11, y_12, y_13)] : List (Int × Int × Int × Int × Int × Int × Int × Int)) rfl rfl St_closed rfl rfl rfl rfl rfl rfl rfl rfl rfl rfl rfl rfl (fun b26 hb26 => ?_)
        refine WO.cls (C' := St w0 m m [L3, [⟨b23, 94, [.int .i64 v_5.1, .int .i64 v_5.2.1, .int .i64 v_5.2.2.1, .int .i64 v_5.2.2.2.1, .int .i64 v_5.2.2.2.2.1, .int .i64 v_5.2.2.2.2.2.1, .int .i64 v_5.2.2.2.2.2.2.1, .int .i64 v_5.2.2.2.2.2.2.2]⟩], [⟨b26, 94, ([(y_6, y_7, y_8, y_9, y_10, y_11, y_12, y_13)] : List (Int × Int × Int × Int × Int × Int × Int × Int)).flatMap T8⟩]]) (fun _ h => h) ?_
        refine WO_tail ?_
        obtain ⟨hc27, hm14⟩ := chk_some hm14
        refine WO_append (E := T8) tbok (fun _ => rfl) 0 ([(y_6, y_7, y_8, y_9, y_10, y_11, y_12, y_13)] : List (Int × Int × Int × Int × Int × Int × Int × Int)) (fun _ _ => rfl) rfl rfl rfl rfl rfl rfl rfl rfl rfl rfl rfl rfl hL3 rfl (src_seg (j := 2) rfl) (ap_ok (by decide) hc27) (ap_max hc27) (fun a28 c29 L30 hL30 => ?_)
        refine WO.cls (C' := St w0 m m [L30, [⟨b23, 94, [.int .i64 v_5.1, .int .i64 v_5.2.1, .int .i64 v_5.2.2.1, .int .i64 v_5.2.2.2.1, .int .i64 v_5.2.2.2.2.1, .int .i64 v_5.2.2.2.2.2.1, .int .i64 v_5.2.2.2.2.2.2.1, .int .i64 v_5.2.2.2.2.2.2.2]⟩], [⟨b26, 94, ([(y_6, y_7, y_8, y_9, y_10, y_11, y_12, y_13)] : List (Int × Int × Int × Int × Int × Int × Int × Int)).flatMap T8⟩]]) (fun _ h => h) ?_
        refine WO_pure tbok 1 [(2, .slice none 0 0), (3, .int .i64 0), (5, .slice a28 ((l_2 ++ ([(y_6, y_7, y_8, y_9, y_10, y_11, y_12, y_13)] : List (Int × Int × Int × Int × Int × Int × Int × Int))).length) c29), (13, .slice a_p0 p0.length c_p0), (14, .int .i64 (p0.length : Int)), (15, .int .i64 s_3)] rfl ⟨rfl, rfl, rfl, rfl, rfl, rfl, trivial⟩ ?_
        refine WO_end ?_
        refine WK_blk ?_
        refine WK_region ?_
        refine WO_pure tbok 2 [(2, .slice none 0 0), (3, .int .i64 0), (5, .slice a28 ((l_2 ++ ([(y_6, y_7, y_8, y_9, y_10, y_11, y_12, y_13)] : List (Int × Int × Int × Int × Int × Int × Int × Int))).length) c29), (13, .slice a_p0 p0.length c_p0), (14, .int .i64 (p0.length : Int)), (15, .int .i64 (w64 (s_3 + 1)))] rfl ⟨rfl, rfl, rfl, rfl, rfl, rfl, trivial⟩ ?_
        refine WO_end ?_
        cases hm14
        refine WK.sub ?_ (WK.cls (fun _ h => St.take 1 h) (hn17 _ (a28, (l_2 ++ ([(y_6, y_7, y_8, y_9, y_10, y_11, y_12, y_13)] : List (Int × Int × Int × Int × Int × Int × Int × Int))).length, c29, L30) rfl hL30))
        exact ⟨rfl, rfl, rfl, rfl, rfl, rfl, trivial⟩
      · have hm14 := ifF hb20 hm14
        refine WK_exit rfl ?_
        cases hm14
        refine WK.sub ?_ (WK.cls (fun _ h => h) (hk13 (l_2, (a4, _, c6, L3)) ⟨(hd18 _ rfl), hL3⟩))
        exact ⟨rfl, rfl, rfl, trivial⟩
theorem fiducialtop_TopMatched_walk {m : Mu} {p0_0 : Int} {p0_1 : Int} {p0_2 : Int} {p0_3 : List Int} {p1 : List (Int × Int × Int × Int × Int × Int × Int × Int)} {a_p0_3 : Option Addr} {q_p0_3 c_p0_3 : Nat} {a_p1 : Option Addr} {q_p1 c_p1 : Nat} (h_p0_3 : SlR (FE (I1 .i64)) 1 m (.slice a_p0_3 q_p0_3 c_p0_3) p0_3) (h_p1 : SlR (FE T8) 8 m (.slice a_p1 q_p1 c_p1) p1) {r : Bool} (hm : fiducialtop_TopMatched p0_0 p0_1 p0_2 p0_3 p1 = some r) :
    Go.E.Spec Try.prog 5 [.agg #[.int .i64 p0_0, .int .i64 p0_1, .int .i64 p0_2, .slice a_p0_3 q_p0_3 c_p0_3], .slice a_p1 q_p1 c_p1] m (fun v _ _ => v = .bool r) := by
  refine Spec_enter Try.func5 rfl rfl rfl (fun w0 => ?_)
  refine WK.sub (e' := [(0, .agg #[.int .i64 p0_0, .int .i64 p0_1, .int .i64 p0_2, .slice a_p0_3 q_p0_3 c_p0_3]), (1, .slice a_p1 q_p1 c_p1)]) ⟨rfl, rfl, trivial⟩ ?_
  obtain rfl := SlR.qlen h_p0_3
  obtain rfl := SlR.qlen h_p1
  refine WK.sub (e' := [(0, .agg #[.int .i64 p0_0, .int .i64 p0_1, .int .i64 p0_2, .slice a_p0_3 p0_3.length c_p0_3]), (1, .slice a_p1 p1.length c_p1)]) ⟨rfl, rfl, trivial⟩ ?_
  unfold fiducialtop_TopMatched at hm
  refine WK_seq ?_
  refine WK_region ?_
  refine WO_box [.int .i64 p0_0, .int .i64 p0_1, .int .i64 p0_2, .slice a_p0_3 p0_3.length c_p0_3] rfl rfl trivial rfl rfl rfl (fun b1 => ?_)
  refine WO.cls (C' := St w0 m m [[⟨b1, 24, [.int .i64 p0_0, .int .i64 p0_1, .int .i64 p0_2, .slice a_p0_3 p0_3.length c_p0_3]⟩]]) (fun _ h => h) ?_
  refine WO_pure tbok 1 [(1, .slice a_p1 p1.length c_p1), (2, .pointer (some ⟨b1, 0, none⟩)), (4, .bool false)] rfl ⟨rfl, rfl, rfl, trivial⟩ ?_
  refine WO_end ?_
  refine WK_seq ?_
  refine WK_seq ?_
  refine WK_region ?_
  obtain ⟨y_1, hc2, hm⟩ := bind_some hm
  refine WO_call0 (.bool y_1) rfl rfl trivial rfl rfl rfl rfl St_closed ⟨19, #[], #[], rfl, callable_19, fun w hw => ⟨_, hw.sat, fiducialtop_bMatched_walk hc2⟩⟩ ?_
  refine WO_pure tbok 1 [(1, .slice a_p1 p1.length c_p1), (2, .pointer (some ⟨b1, 0, none⟩)), (4, .bool false), (21, .bool (!y_1))] rfl ⟨rfl, rfl, rfl, rfl, trivial⟩ ?_
  refine WO_end ?_
  refine WK_cond (b := !y_1) rfl (fun hb3 => ?_) (fun hb3 => ?_)
  · have hm := ifT hb3 hm
    refine WK_seq ?_
    refine WK_region ?_
    refine WO_pure tbok 1 [(1, .slice a_p1 p1.length c_p1), (2, .pointer (some ⟨b1, 0, none⟩)), (4, .bool false)] rfl ⟨rfl, rfl, rfl, trivial⟩ ?_
    refine WO_end ?_
    cases hm
    exact WK_ret (ret_out (L := []) (RLc_tmp rfl RLc_nil) (List.nil_sublist _) rfl)
  · have hm := ifF hb3 hm
    refine WK_skip ?_
    refine WK_seq ?_
    refine WK_seq ?_
    obtain ⟨s_2, hx4, hm⟩ := bind_some hm
    refine WK_meet [(1, .slice a_p1 p1.length c_p1), (2, .pointer (some ⟨b1, 0, none⟩)), (4, .bool false), (37, .bool s_2)] (St w0 m m [[⟨b1, 24, [.int .i64 p0_0, .int .i64 p0_1, .int .i64 p0_2, .slice a_p0_3 p0_3.length c_p0_3]⟩]]) ?_ (fun hk5 => ?_)
    · refine WK_cond (b := s_2) rfl (fun hb6 => ?_) (fun hb6 => ?_)
      · have hm := ifT hb6 hm
        refine WK_seq ?_
        refine WK_region ?_
        refine WO_pure tbok 1 [(1, .slice a_p1 p1.length c_p1), (2, .pointer (some ⟨b1, 0, none⟩)), (4, .bool true)] rfl ⟨rfl, rfl, rfl, trivial⟩ ?_
        refine WO_end ?_
        cases hm
        exact WK_ret (ret_out (L := []) (RLc_tmp rfl RLc_nil) (List.nil_sublist _) rfl)
      · have hm := ifF hb6 hm
        refine WK_skip ?_
        refine WK_seq ?_
        refine WK_region ?_
        refine WO_loadB tbok 0 rfl rfl rfl rfl (fun _ h => h) rfl rfl ?_
        refine WO_pure tbok 1 [(1, .slice a_p1 p1.length c_p1), (2, .pointer (some ⟨b1, 0, none⟩)), (4, .bool false), (39, .agg #[.int .i64 p0_0, .int .i64 p0_1, .int .i64 p0_2, .slice a_p0_3 p0_3.length c_p0_3]), (40, .slice a_p1 p1.length c_p1)] rfl ⟨rfl, rfl, rfl, rfl, rfl, trivial⟩ ?_
        obtain ⟨⟨y_3, y_4, y_5⟩, hc7, hm⟩ := bind_some hm
        refine WO_call2 (descriptor_All_Q (y_3, y_4, y_5)) rfl rfl trivial rfl rfl rfl rfl ⟨21, #[], #[], rfl, callable_21, descriptor_All_walk h_p0_3 h_p1 hc7⟩ (fun v13 m14 L12 hle15 hq => ?_)
        obtain ⟨a8, qa8, c9, a10, qa10, c11, rfl, h16, h17⟩ := hq
        obtain rfl := SlR.qlen h16
        obtain rfl := SlR.qlen h17
        refine WO.cls (C' := St w0 m m14 [[⟨b1, 24, [.int .i64 p0_0, .int .i64 p0_1, .int .i64 p0_2, .slice a_p0_3 p0_3.length c_p0_3]⟩], L12]) (fun _ h => h.sub (by simp)) ?_
        refine WO_pure tbok 7 [(1, .slice a_p1 p1.length c_p1), (2, .pointer (some ⟨b1, 0, none⟩)), (4, .bool false), (5, .slice a8 ((y_3).length) c9), (6, .slice a10 ((y_4).length) c11), (7, .int .i64 y_5)] rfl ⟨rfl, rfl, rfl, rfl, rfl, rfl, trivial⟩ ?_
        refine WO_end ?_
        refine WK_seq ?_
        refine WK_region ?_
        refine WO_loadB tbok 0 rfl rfl rfl rfl (fun _ h => h) rfl rfl ?_
        obtain ⟨⟨y_6, y_7, y_8, y_9, y_10⟩, hc18, hm⟩ := bind_some hm
        refine WO_call1 (raster_Turn_Q (y_6, y_7, y_8, y_9, y_10)) rfl rfl trivial rfl rfl rfl rfl ⟨22, #[], #[], rfl, callable_22, fun w hw => ⟨_, hw.sat, raster_Turn_walk (h_p0_3.mono (mono_FE _) hle15) hc18⟩⟩ (fun v22 L21 hq => ?_)
        obtain ⟨a19, qa19, c20, rfl, hL21⟩ := hq
        obtain rfl := OwnE.qlen hL21
        refine WO.cls (C' := St w0 m m14 [[⟨b1, 24, [.int .i64 p0_0, .int .i64 p0_1, .int .i64 p0_2, .slice a_p0_3 p0_3.length c_p0_3]⟩], L12, L21]) (fun _ h => h) ?_
        refine WO_pure tbok 3 [(1, .slice a_p1 p1.length c_p1), (2, .pointer (some ⟨b1, 0, none⟩)), (4, .bool false), (5, .slice a8 ((y_3).length) c9), (6, .slice a10 ((y_4).length) c11), (7, .int .i64 y_5), (48, .agg #[.int .i64 y_6, .int .i64 y_7, .int .i64 y_8, .slice a19 ((y_9).length) c20]), (49, .int .i64 y_10)] rfl ⟨rfl, rfl, rfl, rfl, rfl, rfl, rfl, rfl, trivial⟩ ?_
        refine WO_alloc tbok [.int .i64 0, .int .i64 0, .int .i64 0, .slice none 0 0] rfl rfl trivial rfl rfl rfl rfl (fun b23 => ?_)
        refine WO.cls (C' := St w0 m m14 [[⟨b1, 24, [.int .i64 p0_0, .int .i64 p0_1, .int .i64 p0_2, .slice a_p0_3 p0_3.length c_p0_3]⟩], L12, L21, [⟨b23, 24, [.int .i64 0, .int .i64 0, .int .i64 0, .slice none 0 0]⟩]]) (fun _ h => h) ?_
        refine WO_storeB tbok 3 [.int .i64 y_6, .int .i64 y_7, .int .i64 y_8, .slice a19 ((y_9).length) c20] rfl rfl rfl rfl rfl rfl rfl ?_
        refine WO.cls (C' := St w0 m m14 [[⟨b1, 24, [.int .i64 p0_0, .int .i64 p0_1, .int .i64 p0_2, .slice a_p0_3 p0_3.length c_p0_3]⟩], L12, L21, [⟨b23, 24, [.int .i64 y_6, .int .i64 y_7, .int .i64 y_8, .slice a19 ((y_9).length) c20]⟩]]) (fun _ h => h) ?_
        refine WO_pure tbok 1 [(1, .slice a_p1 p1.length c_p1), (2, .pointer (some ⟨b1, 0, none⟩)), (4, .bool false), (5, .slice a8 ((y_3).length) c9), (6, .slice a10 ((y_4).length) c11), (7, .int .i64 y_5), (8, .pointer (some ⟨b23, 0, none⟩)), (9, .int .i64 y_10)] rfl ⟨rfl, rfl, rfl, rfl, rfl, rfl, rfl, rfl, trivial⟩ ?_
        refine WO_end ?_
        refine WK_seq ?_
        refine WK_region ?_
        refine WO_pure tbok 1 [(2, .pointer (some ⟨b1, 0, none⟩)), (4, .bool false), (5, .slice a8 ((y_3).length) c9), (6, .slice a10 ((y_4).length) c11), (7, .int .i64 y_5), (8, .pointer (some ⟨b23, 0, none⟩)), (9, .int .i64 y_10), (51, .slice a_p1 p1.length c_p1)] rfl ⟨rfl, rfl, rfl, rfl, rfl, rfl, rfl, rfl, trivial⟩ ?_
        obtain ⟨⟨y_11, y_12⟩, hc24, hm⟩ := bind_some hm
        refine WO_call1 (descriptor_Turned_Q (y_11, y_12)) rfl rfl trivial rfl rfl rfl rfl ⟨23, #[], #[], rfl, callable_23, fun w hw => ⟨_, hw.sat, descriptor_Turned_walk (h_p1.mono (mono_FE _) hle15) hc24⟩⟩ (fun v28 L27 hq => ?_)
        obtain ⟨a25, qa25, c26, rfl, hL27⟩ := hq
        obtain rfl := OwnE.qlen hL27
        refine WO.cls (C' := St w0 m m14 [[⟨b1, 24, [.int .i64 p0_0, .int .i64 p0_1, .int .i64 p0_2, .slice a_p0_3 p0_3.length c_p0_3]⟩], L12, L21, [⟨b23, 24, [.int .i64 y_6, .int .i64 y_7, .int .i64 y_8, .slice a19 ((y_9).length) c20]⟩], L27]) (fun _ h => h) ?_
        refine WO_pure tbok 5 [(2, .pointer (some ⟨b1, 0, none⟩)), (4, .bool false), (5, .slice a8 ((y_3).length) c9), (6, .slice a10 ((y_4).length) c11), (7, .int .i64 y_5), (8, .pointer (some ⟨b23, 0, none⟩)), (9, .int .i64 y_10), (10, .slice a25 ((y_11).length) c26), (11, .int .i64 y_12)] rfl ⟨rfl, rfl, rfl, rfl, rfl, rfl, rfl, rfl, rfl, trivial⟩ ?_
        refine WO_end ?_
        refine WK_seq ?_
        refine WK_region ?_
        refine WO_loadB tbok 3 rfl rfl rfl rfl (fun _ h => h) rfl rfl ?_
        refine WO_pure tbok 1 [(2, .pointer (some ⟨b1, 0, none⟩)), (4, .bool false), (5, .slice a8 ((y_3).length) c9), (6, .slice a10 ((y_4).length) c11), (7, .int .i64 y_5), (9, .int .i64 y_10), (11, .int .i64 y_12), (56, .agg #[.int .i64 y_6, .int .i64 y_7, .int .i64 y_8, .slice a19 ((y_9).length) c20]), (57, .slice a25 ((y_11).length) c26)] rfl ⟨rfl, rfl, rfl, rfl, rfl, rfl, rfl, rfl, rfl, trivial⟩ ?_
        refine WO_freeze 2 rfl (fun m29 hle30 hmm31 => ?_)
        refine WO.cls (C' := St w0 m m29 [[⟨b1, 24, [.int .i64 p0_0, .int .i64 p0_1, .int .i64 p0_2, .slice a_p0_3 p0_3.length c_p0_3]⟩], L12, [], [⟨b23, 24, [.int .i64 y_6, .int .i64 y_7, .int .i64 y_8, .slice a19 ((y_9).length) c20]⟩], L27]) (fun _ h => h) ?_
        refine WO_freeze 4 rfl (fun m32 hle33 hmm34 => ?_)
        refine WO.cls (C' := St w0 m m32 [[⟨b1, 24, [.int .i64 p0_0, .int .i64 p0_1, .int .i64 p0_2, .slice a_p0_3 p0_3.length c_p0_3]⟩], L12, [], [⟨b23, 24, [.int .i64 y_6, .int .i64 y_7, .int .i64 y_8, .slice a19 ((y_9).length) c20]⟩], []]) (fun _ h => h) ?_
        obtain ⟨⟨y_13, y_14, y_15⟩, hc35, hm⟩ := bind_some hm
        refine WO_call2 (descriptor_All_Q (y_13, y_14, y_15)) rfl rfl trivial rfl rfl rfl rfl ⟨21, #[], #[], rfl, callable_21, descriptor_All_walk ((OwnE.rd (E := (I1 .i64)) (k := 1) (fun _ => rfl) hL21 hmm31).mono (mono_FE _) hle33) (OwnE.rd (E := T8) (k := 8) (fun _ => rfl) hL27 hmm34) hc35⟩ (fun v41 m42 L40 hle43 hq => ?_)
        obtain ⟨a36, qa36, c37, a38, qa38, c39, rfl, h44, h45⟩ := hq
        obtain rfl := SlR.qlen h44
        obtain rfl := SlR.qlen h45
        refine WO.cls (C' := St w0 m m42 [[⟨b1, 24, [.int .i64 p0_0, .int .i64 p0_1, .int .i64 p0_2, .slice a_p0_3 p0_3.length c_p0_3]⟩], L12, [], [⟨b23, 24, [.int .i64 y_6, .int .i64 y_7, .int .i64 y_8, .slice a19 ((y_9).length) c20]⟩], [], L40]) (fun _ h => h.sub (by simp)) ?_
        refine WO_pure tbok 7 [(2, .pointer (some ⟨b1, 0, none⟩)), (4, .bool false), (5, .slice a8 ((y_3).length) c9), (6, .slice a10 ((y_4).length) c11), (7, .int .i64 y_5), (9, .int .i64 y_10), (11, .int .i64 y_12), (12, .slice a36 ((y_13).length) c37), (13, .slice a38 ((y_14).length) c39), (14, .int .i64 y_15)] rfl ⟨rfl, rfl, rfl, rfl, rfl, rfl, rfl, rfl, rfl, rfl, trivial⟩ ?_
        refine WO_end ?_
        refine WK_seq ?_
        refine WK_seq ?_
        obtain ⟨s_16, hx46, hm⟩ := bind_some hm
        refine WK_meet [(2, .pointer (some ⟨b1, 0, none⟩)), (4, .bool false), (5, .slice a8 ((y_3).length) c9), (6, .slice a10 ((y_4).length) c11), (12, .slice a36 ((y_13).length) c37), (13, .slice a38 ((y_14).length) c39), (90, .bool s_16)] (St w0 m m42 [[⟨b1, 24, [.int .i64 p0_0, .int .i64 p0_1, .int .i64 p0_2, .slice a_p0_3 p0_3.length c_p0_3]⟩], L12, [], [⟨b23, 24, [.int .i64 y_6, .int .i64 y_7, .int .i64 y_8, .slice a19 ((y_9).length) c20]⟩], [], L40]) ?_ (fun hk47 => ?_)
        · refine WK_cond (b := s_16) rfl (fun hb48 => ?_) (fun hb48 => ?_)
          · have hm := ifT hb48 hm
            refine WK_seq ?_
            refine WK_region ?_
            refine WO_pure tbok 1 [(2, .pointer (some ⟨b1, 0, none⟩)), (4, .bool false), (5, .slice a8 ((y_3).length) c9), (6, .slice a10 ((y_4).length) c11), (12, .slice a36 ((y_13).length) c37), (13, .slice a38 ((y_14).length) c39)] rfl ⟨rfl, rfl, rfl, rfl, rfl, rfl, trivial⟩ ?_
            refine WO_end ?_
            cases hm
            exact WK_ret (ret_out (L := []) (RLc_tmp rfl RLc_nil) (List.nil_sublist _) rfl)
          · have hm := ifF hb48 hm
            refine WK_skip ?_
            refine WK_seq ?_
            refine WK_seq ?_
            obtain ⟨s_17, hx49, hm⟩ := bind_some hm
            refine WK_meet [(2, .pointer (some ⟨b1, 0, none⟩)), (4, .bool false), (5, .slice a8 ((y_3).length) c9), (6, .slice a10 ((y_4).length) c11), (12, .slice a36 ((y_13).length) c37), (13, .slice a38 ((y_14).length) c39), (98, .bool s_17)] (St w0 m m42 [[⟨b1, 24, [.int .i64 p0_0, .int .i64 p0_1, .int .i64 p0_2, .slice a_p0_3 p0_3.length c_p0_3]⟩], L12, [], [⟨b23, 24, [.int .i64 y_6, .int .i64 y_7, .int .i64 y_8, .slice a19 ((y_9).length) c20]⟩], [], L40]) ?_ (fun hk50 => ?_)
            · refine WK_cond (b := s_17) rfl (fun hb51 => ?_) (fun hb51 => ?_)
              · have hm := ifT hb51 hm
                refine WK_seq ?_
                refine WK_region ?_
                refine WO_pure tbok 1 [(2, .pointer (some ⟨b1, 0, none⟩)), (4, .bool true), (5, .slice a8 ((y_3).length) c9), (6, .slice a10 ((y_4).length) c11), (12, .slice a36 ((y_13).length) c37), (13, .slice a38 ((y_14).length) c39)] rfl ⟨rfl, rfl, rfl, rfl, rfl, rfl, trivial⟩ ?_
                refine WO_end ?_
                cases hm
                exact WK_ret (ret_out (L := []) (RLc_tmp rfl RLc_nil) (List.nil_sublist _) rfl)
              · have hm := ifF hb51 hm
                refine WK_skip ?_
                refine WK_seq ?_
                refine WK_region ?_
                refine WO_pure tbok 2 [(2, .pointer (some ⟨b1, 0, none⟩)), (4, .bool false), (5, .slice a8 ((y_3).length) c9), (12, .slice a36 ((y_13).length) c37), (100, .slice a10 ((y_4).length) c11), (101, .slice a38 ((y_14).length) c39)] rfl ⟨rfl, rfl, rfl, rfl, rfl, rfl, trivial⟩ ?_
                obtain ⟨⟨y_18, y_19⟩, hc52, hm⟩ := bind_some hm
                refine WO_call1 (neighbour_Matches_Q (y_18, y_19)) rfl rfl trivial rfl rfl rfl rfl ⟨25, #[], #[], rfl, callable_25, fun w hw => ⟨_, hw.sat, neighbour_Matches_walk (((h17.mono (mono_FE _) hle30).mono (mono_FE _) hle33).mono (mono_FE _) hle43) h45 hc52⟩⟩ (fun v56 L55 hq => ?_)
                obtain ⟨a53, qa53, c54, rfl, hL55⟩ := hq
                obtain rfl := OwnE.qlen hL55
                refine WO.cls (C' := St w0 m m42 [[⟨b1, 24, [.int .i64 p0_0, .int .i64 p0_1, .int .i64 p0_2, .slice a_p0_3 p0_3.length c_p0_3]⟩], L12, [], [⟨b23, 24, [.int .i64 y_6, .int .i64 y_7, .int .i64 y_8, .slice a19 ((y_9).length) c20]⟩], [], L40, L55]) (fun _ h => h) ?_
                refine WO_pure tbok 5 [(2, .pointer (some ⟨b1, 0, none⟩)), (4, .bool false), (5, .slice a8 ((y_3).length) c9), (7, .int .i64 y_19), (12, .slice a36 ((y_13).length) c37), (15, .slice a53 ((y_18).length) c54)] rfl ⟨rfl, rfl, rfl, rfl, rfl, rfl, trivial⟩ ?_
                refine WO_end ?_
                refine WK_seq ?_
                refine WK_seq ?_
                obtain ⟨s_20, hx57, hm⟩ := bind_some hm
                refine WK_meet [(2, .pointer (some ⟨b1, 0, none⟩)), (4, .bool false), (5, .slice a8 ((y_3).length) c9), (12, .slice a36 ((y_13).length) c37), (15, .slice a53 ((y_18).length) c54), (113, .bool s_20)] (St w0 m m42 [[⟨b1, 24, [.int .i64 p0_0, .int .i64 p0_1, .int .i64 p0_2, .slice a_p0_3 p0_3.length c_p0_3]⟩], L12, [], [⟨b23, 24, [.int .i64 y_6, .int .i64 y_7, .int .i64 y_8, .slice a19 ((y_9).length) c20]⟩], [], L40, L55]) ?_ (fun hk58 => ?_)
                · refine WK_cond (b := s_20) rfl (fun hb59 => ?_) (fun hb59 => ?_)
                  · have hm := ifT hb59 hm
                    refine WK_seq ?_
                    refine WK_region ?_
                    refine WO_pure tbok 1 [(2, .pointer (some ⟨b1, 0, none⟩)), (4, .bool false), (5, .slice a8 ((y_3).length) c9), (12, .slice a36 ((y_13).length) c37), (15, .slice a53 ((y_18).length) c54)] rfl ⟨rfl, rfl, rfl, rfl, rfl, trivial⟩ ?_
                    refine WO_end ?_
                    cases hm
                    exact WK_ret (ret_out (L := []) (RLc_tmp rfl RLc_nil) (List.nil_sublist _) rfl)
                  · have hm := ifF hb59 hm
                    refine WK_skip ?_
                    refine WK_seq ?_
                    refine WK_seq ?_
                    refine WK_region ?_
                    refine WO_pure tbok 3 [(2, .pointer (some ⟨b1, 0, none⟩)), (4, .bool false), (5, .slice a8 ((y_3).length) c9), (12, .slice a36 ((y_13).length) c37), (114, .slice a53 ((y_18).length) c54), (115, .int .i64 ((y_18).length : Int)), (116, .int .i64 0)] rfl ⟨rfl, rfl, rfl, rfl, rfl, rfl, rfl, trivial⟩ ?_
                    refine WO_end ?_
                    obtain ⟨x60, hx61, hm⟩ := bind_some hm
                    refine WK_join (β := Unit × Unit) (fun p => Sum.inr p.1 = x60) (fun p => [(4, .bool false)]) (fun p => St w0 m m42 [[⟨b1, 24, [.int .i64 p0_0, .int .i64 p0_1, .int .i64 p0_2, .slice a_p0_3 p0_3.length c_p0_3]⟩], L12, [], [⟨b23, 24, [.int .i64 y_6, .int .i64 y_7, .int .i64 y_8, .slice a19 ((y_9).length) c20]⟩], [], L40, L55]) ?_ (fun hk62 => ?_)
                    · rintro ⟨⟨⟩, ⟨⟩⟩ hq68
                      subst hq68
                      refine WK.sub (e' := [(4, .bool false)]) ⟨rfl, trivial⟩ (WK.cls (C' := St w0 m m42 [[⟨b1, 24, [.int .i64 p0_0, .int .i64 p0_1, .int .i64 p0_2, .slice a_p0_3 p0_3.length c_p0_3]⟩], L12, [], [⟨b23, 24, [.int .i64 y_6, .int .i64 y_7, .int .i64 y_8, .slice a19 ((y_9).length) c20]⟩], [], L40, L55]) (fun _ h => h) ?_)
                      refine WK_seq ?_
                      refine WK_region ?_
                      refine WO_pure tbok 1 [(4, .bool true)] rfl ⟨rfl, trivial⟩ ?_
                      refine WO_end ?_
                      cases hm
                      exact WK_ret (ret_out (L := []) (RLc_tmp rfl RLc_nil) (List.nil_sublist _) rfl)
                    · refine WK_block ?_
                      refine WK_loop (S := Int) (G := Unit) (fun s => fiducialtop_TopMatched_s1 p0_0 y_3 y_13 y_18 s) (fun s g => [(2, .pointer (some ⟨b1, 0, none⟩)), (4, .bool false), (5, .slice a8 ((y_3).length) c9), (12, .slice a36 ((y_13).length) c37), (114, .slice a53 ((y_18).length) c54), (115, .int .i64 ((y_18).length : Int)), (116, .int .i64 s)]) (fun s g => St w0 m m42 [[⟨b1, 24, [.int .i64 p0_0, .int .i64 p0_1, .int .i64 p0_2, .slice a_p0_3 p0_3.length c_p0_3]⟩], L12, [], [⟨b23, 24, [.int .i64 y_6, .int .i64 y_7, .int .i64 y_8, .slice a19 ((y_9).length) c20]⟩], [], L40, L55]) (fun s g => True) FUEL 0 () x60 hx61 trivial ⟨rfl, rfl, rfl, rfl, rfl, rfl, rfl, trivial⟩ (fun _ h => h) ?_
                      rintro s_21 ⟨⟩ o64 fl65 hm63 - hn66 hd67
                      have hm63 : fiducialtop_TopMatched_s1 p0_0 y_3 y_13 y_18 s_21 = some o64 := hm63
                      unfold fiducialtop_TopMatched_s1 at hm63
                      refine WK.sub (e' := [(2, .pointer (some ⟨b1, 0, none⟩)), (4, .bool false), (5, .slice a8 ((y_3).length) c9), (12, .slice a36 ((y_13).length) c37), (114, .slice a53 ((y_18).length) c54), (115, .int .i64 ((y_18).length : Int)), (116, .int .i64 s_21)]) ⟨rfl, rfl, rfl, rfl, rfl, rfl, rfl, trivial⟩ (WK.cls (C' := St w0 m m42 [[⟨b1, 24, [.int .i64 p0_0, .int .i64 p0_1, .int .i64 p0_2, .slice a_p0_3 p0_3.length c_p0_3]⟩], L12, [], [⟨b23, 24, [.int .i64 y_6, .int .i64 y_7, .int .i64 y_8, .slice a19 ((y_9).length) c20]⟩], [], L40, L55]) (fun _ h => h) ?_)
                      refine WK_seq ?_
                      refine WK_region ?_
                      refine WO_pure tbok 1 [(2, .pointer (some ⟨b1, 0, none⟩)), (4, .bool false), (5, .slice a8 ((y_3).length) c9), (12, .slice a36 ((y_13).length) c37), (114, .slice a53 ((y_18).length) c54), (115, .int .i64 ((y_18).length : Int)), (116, .int .i64 s_21), (117, .bool (decide (s_21 < ((y_18).length : Int))))] rfl ⟨rfl, rfl, rfl, rfl, rfl, rfl, rfl, rfl, trivial⟩ ?_
                      refine WO_end ?_
                      refine WK_seq ?_
                      refine WK_cond (b := decide (s_21 < ((y_18).length : Int))) rfl (fun hb69 => ?_) (fun hb69 => ?_)
                      · have hm63 := ifT hb69 hm63
                        refine WK_skip ?_
                        refine WK_seq ?_
                        refine WK_block ?_
                        refine WK_seq ?_
                        refine WK_region ?_
                        obtain ⟨v_22, hy70, hm63⟩ := bind_some hm63
                        obtain ⟨hc71, hy70⟩ := ix_some hy70
                        refine WO_index tbok rfl rfl rfl rfl rfl rfl rfl rfl (OwnE.addr hL55) (by simpa using hc71) ?_
                        refine WO_loadO (E := T3) tbok (fun _ => rfl) 6 rfl rfl rfl rfl (fun _ h => h) hL55 rfl hy70 rfl ?_
                        refine WO_alloc tbok [.int .i64 0, .int .i64 0, .int .i64 0] rfl rfl trivial rfl rfl rfl rfl (fun b72 => ?_)
                        refine WO.cls (C' := St w0 m m42 [[⟨b1, 24, [.int .i64 p0_0, .int .i64 p0_1, .int .i64 p0_2, .slice a_p0_3 p0_3.length c_p0_3]⟩], L12, [], [⟨b23, 24, [.int .i64 y_6, .int .i64 y_7, .int .i64 y_8, .slice a19 ((y_9).length) c20]⟩], [], L40, L55, [⟨b72, 65, [.int .i64 0, .int .i64 0, .int .i64 0]⟩]]) (fun _ h => h) ?_
                        refine WO_storeB tbok 7 [.int .i64 v_22.1, .int .i64 v_22.2.1, .int .i64 v_22.2.2] rfl rfl rfl rfl rfl rfl rfl ?_
                        refine WO.cls (C' := St w0 m m42 [[⟨b1, 24, [.int .i64 p0_0, .int .i64 p0_1, .int .i64 p0_2, .slice a_p0_3 p0_3.length c_p0_3]⟩], L12, [], [⟨b23, 24, [.int .i64 y_6, .int .i64 y_7, .int .i64 y_8, .slice a19 ((y_9).length) c20]⟩], [], L40, L55, [⟨b72, 65, [.int .i64 v_22.1, .int .i64 v_22.2.1, .int .i64 v_22.2.2]⟩]]) (fun _ h => h) ?_
                        refine WO_end ?_
                        refine WK_seq ?_
                        refine WK_seq ?_
                        obtain ⟨s_23, hx73, hm63⟩ := bind_some hm63
                        refine WK_meet [(2, .pointer (some ⟨b1, 0, none⟩)), (4, .bool false), (5, .slice a8 ((y_3).length) c9), (12, .slice a36 ((y_13).length) c37), (17, .pointer (some ⟨b72, 0, none⟩)), (114, .slice a53 ((y_18).length) c54), (115, .int .i64 ((y_18).length : Int)), (116, .int .i64 s_21), (140, .bool s_23)] (St w0 m m42 [[⟨b1, 24, [.int .i64 p0_0, .int .i64 p0_1, .int .i64 p0_2, .slice a_p0_3 p0_3.length c_p0_3]⟩], L12, [], [⟨b23, 24, [.int .i64 y_6, .int .i64 y_7, .int .i64 y_8, .slice a19 ((y_9).length) c20]⟩], [], L40, L55, [⟨b72, 65, [.int .i64 v_22.1, .int .i64 v_22.2.1, .int .i64 v_22.2.2]⟩]]) ?_ (fun hk74 => ?_)
                        · refine WK_cond (b := s_23) rfl (fun hb75 => ?_) (fun hb75 => ?_)
                          · have hm63 := ifT hb75 hm63
                            refine WK_seq ?_
                            refine WK_region ?_
                            refine WO_pure tbok 1 [(2, .pointer (some ⟨b1, 0, none⟩)), (4, .bool false), (5, .slice a8 ((y_3).length) c9), (12, .slice a36 ((y_13).length) c37), (17, .pointer (some ⟨b72, 0, none⟩)), (114, .slice a53 ((y_18).length) c54), (115, .int .i64 ((y_18).length : Int)), (116, .int .i64 s_21)] rfl ⟨rfl, rfl, rfl, rfl, rfl, rfl, rfl, rfl, trivial⟩ ?_
                            refine WO_end ?_
                            cases hm63
                            have hq := hd67 _ rfl
                            subst hq
                            have hm : some _ = some _ := hm
                            cases hm
                            exact WK_ret (ret_out (L := []) (RLc_tmp rfl RLc_nil) (List.nil_sublist _) rfl)
                          · have hm63 := ifF hb75 hm63
                            refine WK_skip ?_
                            refine WK_seq ?_
                            obtain ⟨⟨s_24, s_25, s_26, s_27⟩, hx78, hm63⟩ := bind_some hm63
                            refine WK_join (β := Nat × Nat) (fun p => True) (fun p => [(2, .pointer (some ⟨b1, 0, none⟩)), (4, .bool false), (5, .slice a8 ((y_3).length) c9), (12, .slice a36 ((y_13).length) c37), (18, .pointer (some ⟨p.1, 0, none⟩)), (19, .pointer (some ⟨p.2, 0, none⟩)), (114, .slice a53 ((y_18).length) c54), (115, .int .i64 ((y_18).length : Int)), (116, .int .i64 s_21)]) (fun p => St w0 m m42 [[⟨b1, 24, [.int .i64 p0_0, .int .i64 p0_1, .int .i64 p0_2, .slice a_p0_3 p0_3.length c_p0_3]⟩], L12, [], [⟨b23, 24, [.int .i64 y_6, .int .i64 y_7, .int .i64 y_8, .slice a19 ((y_9).length) c20]⟩], [], L40, L55, [⟨b72, 65, [.int .i64 v_22.1, .int .i64 v_22.2.1, .int .i64 v_22.2.2]⟩], [⟨p.1, 67, [.int .i64 s_24, .int .i64 s_25]⟩], [⟨p.2, 67, [.int .i64 s_26, .int .i64 s_27]⟩]]) ?_ (fun hk79 => ?_)
                            · rintro ⟨b76, b77⟩ -
                              refine WK.sub (e' := [(2, .pointer (some ⟨b1, 0, none⟩)), (4, .bool false), (5, .slice a8 ((y_3).length) c9), (12, .slice a36 ((y_13).length) c37), (18, .pointer (some ⟨b76, 0, none⟩)), (19, .pointer (some ⟨b77, 0, none⟩)), (114, .slice a53 ((y_18).length) c54), (115, .int .i64 ((y_18).length : Int)), (116, .int .i64 s_21)]) ⟨rfl, rfl, rfl, rfl, rfl, rfl, rfl, rfl, rfl, trivial⟩ (WK.cls (C' := St w0 m m42 [[⟨b1, 24, [.int .i64 p0_0, .int .i64 p0_1, .int .i64 p0_2, .slice a_p0_3 p0_3.length c_p0_3]⟩], L12, [], [⟨b23, 24, [.int .i64 y_6, .int .i64 y_7, .int .i64 y_8, .slice a19 ((y_9).length) c20]⟩], [], L40, L55, [⟨b72, 65, [.int .i64 v_22.1, .int .i64 v_22.2.1, .int .i64 v_22.2.2]⟩], [⟨b76, 67, [.int .i64 s_24, .int .i64 s_25]⟩], [⟨b77, 67, [.int .i64 s_26, .int .i64 s_27]⟩]]) (fun _ h => h) ?_)
                              refine WK_seq ?_
                              refine WK_region ?_
                              refine WO_loadB tbok 9 rfl rfl rfl rfl (fun _ h => h) rfl rfl ?_
                              refine WO_pure tbok 1 [(2, .pointer (some ⟨b1, 0, none⟩)), (4, .bool false), (5, .slice a8 ((y_3).length) c9), (12, .slice a36 ((y_13).length) c37), (18, .pointer (some ⟨b76, 0, none⟩)), (114, .slice a53 ((y_18).length) c54), (115, .int .i64 ((y_18).length : Int)), (116, .int .i64 s_21), (151, .agg #[.int .i64 s_26, .int .i64 s_27]), (152, .pointer (some ⟨b76, 1, none⟩))] rfl ⟨rfl, rfl, rfl, rfl, rfl, rfl, rfl, rfl, rfl, rfl, trivial⟩ ?_
                              refine WO_loadB tbok 8 rfl rfl rfl rfl (fun _ h => h) rfl rfl ?_
                              refine WO_pure tbok 1 [(2, .pointer (some ⟨b1, 0, none⟩)), (4, .bool false), (5, .slice a8 ((y_3).length) c9), (12, .slice a36 ((y_13).length) c37), (18, .pointer (some ⟨b76, 0, none⟩)), (114, .slice a53 ((y_18).length) c54), (115, .int .i64 ((y_18).length : Int)), (116, .int .i64 s_21), (151, .agg #[.int .i64 s_26, .int .i64 s_27]), (153, .int .i64 s_25), (154, .pointer (some ⟨b1, 0, none⟩))] rfl ⟨rfl, rfl, rfl, rfl, rfl, rfl, rfl, rfl, rfl, rfl, rfl, trivial⟩ ?_
                              refine WO_loadB tbok 0 rfl rfl rfl rfl (fun _ h => h) rfl rfl ?_
                              refine WO_pure tbok 2 [(2, .pointer (some ⟨b1, 0, none⟩)), (4, .bool false), (5, .slice a8 ((y_3).length) c9), (12, .slice a36 ((y_13).length) c37), (114, .slice a53 ((y_18).length) c54), (115, .int .i64 ((y_18).length : Int)), (116, .int .i64 s_21), (151, .agg #[.int .i64 s_26, .int .i64 s_27]), (153, .int .i64 s_25), (156, .int .i64 (w64 (p0_0 - 1))), (157, .pointer (some ⟨b76, 0, none⟩))] rfl ⟨rfl, rfl, rfl, rfl, rfl, rfl, rfl, rfl, rfl, rfl, rfl, trivial⟩ ?_
                              refine WO_loadB tbok 8 rfl rfl rfl rfl (fun _ h => h) rfl rfl ?_
                              refine WO_pure tbok 2 [(2, .pointer (some ⟨b1, 0, none⟩)), (4, .bool false), (5, .slice a8 ((y_3).length) c9), (12, .slice a36 ((y_13).length) c37), (114, .slice a53 ((y_18).length) c54), (115, .int .i64 ((y_18).length : Int)), (116, .int .i64 s_21), (151, .agg #[.int .i64 s_26, .int .i64 s_27]), (160, .agg #[.int .i64 s_25, .int .i64 (w64 ((w64 (p0_0 - 1)) - s_24))])] rfl ⟨rfl, rfl, rfl, rfl, rfl, rfl, rfl, rfl, rfl, trivial⟩ ?_
                              refine WO_neA (r := ((s_26 == s_25) && ((s_27 == (w64 ((w64 (p0_0 - 1)) - s_24))) && true))) [.int .i64 s_26, .int .i64 s_27] [.int .i64 s_25, .int .i64 (w64 ((w64 (p0_0 - 1)) - s_24))] rfl rfl rfl rfl rfl (by kernel_rfl) (by kernel_rfl) (by kernel_rfl) ?_
                              refine WO_end ?_
                              refine WK_cond (b := !((s_26 == s_25) && ((s_27 == (w64 ((w64 (p0_0 - 1)) - s_24))) && true))) rfl (fun hb80 => ?_) (fun hb80 => ?_)
                              · have hm63 := ifT hb80 hm63
                                refine WK_seq ?_
                                refine WK_region ?_
                                refine WO_pure tbok 1 [(2, .pointer (some ⟨b1, 0, none⟩)), (4, .bool false), (5, .slice a8 ((y_3).length) c9), (12, .slice a36 ((y_13).length) c37), (114, .slice a53 ((y_18).length) c54), (115, .int .i64 ((y_18).length : Int)), (116, .int .i64 s_21)] rfl ⟨rfl, rfl, rfl, rfl, rfl, rfl, rfl, trivial⟩ ?_
                                refine WO_end ?_
                                cases hm63
                                have hq := hd67 _ rfl
                                subst hq
                                have hm : some _ = some _ := hm
                                cases hm
                                exact WK_ret (ret_out (L := []) (RLc_tmp rfl RLc_nil) (List.nil_sublist _) rfl)
                              · have hm63 := ifF hb80 hm63
                                refine WK_skip ?_
                                refine WK_blk ?_
                                refine WK_region ?_
                                refine WO_pure tbok 2 [(2, .pointer (some ⟨b1, 0, none⟩)), (4, .bool false), (5, .slice a8 ((y_3).length) c9), (12, .slice a36 ((y_13).length) c37), (114, .slice a53 ((y_18).length) c54), (115, .int .i64 ((y_18).length : Int)), (116, .int .i64 (w64 (s_21 + 1)))] rfl ⟨rfl, rfl, rfl, rfl, rfl, rfl, rfl, trivial⟩ ?_
                                refine WO_end ?_
                                cases hm63
                                refine WK.sub ?_ (WK.cls (fun _ h => St.take 7 h) (hn66 _ () rfl trivial))
                                exact ⟨rfl, rfl, rfl, rfl, rfl, rfl, rfl, trivial⟩
                            · refine WK_plan 14 [0, 1, 5, 6] (.run [2, 3, 4, 7, 8, 9] (.alt 10 (.run [11, 12, 13] .fin) (.alt 11 (.run [10, 12, 13] .fin) .none))) follows_ok (by kernel_rfl) St_closed ?_
                              refine WO_pure tbok 4 [(2, .pointer (some ⟨b1, 0, none⟩)), (4, .bool false), (5, .slice a8 ((y_3).length) c9), (12, .slice a36 ((y_13).length) c37), (114, .slice a53 ((y_18).length) c54), (115, .int .i64 ((y_18).length : Int)), (116, .int .i64 s_21), (141, .slice a8 ((y_3).length) c9), (142, .pointer (some ⟨b72, 0, none⟩)), (146, .slice a36 ((y_13).length) c37), (147, .pointer (some ⟨b72, 1, none⟩))] rfl ⟨rfl, rfl, rfl, rfl, rfl, rfl, rfl, rfl, rfl, rfl, rfl, trivial⟩ ?_
                              refine WO_plan ?_
                              refine WT_run ?_
                              refine WO_loadB tbok 7 rfl rfl rfl rfl (fun _ h => h) rfl rfl ?_
                              obtain ⟨v_28, hy81, hx78⟩ := bind_some hx78
                              obtain ⟨hc82, hy81⟩ := ix_some hy81
                              refine WO_index tbok rfl rfl rfl rfl rfl rfl rfl rfl (SlR.addr (((h16.mono (mono_FE _) hle30).mono (mono_FE _) hle33).mono (mono_FE _) hle43)) hc82 ?_
                              refine WO_loadE tbok rfl rfl rfl rfl (fun _ h => St.sat h) (((h16.mono (mono_FE _) hle30).mono (mono_FE _) hle33).mono (mono_FE _) hle43) hy81 rfl ?_
                              refine WO_loadB tbok 7 rfl rfl rfl rfl (fun _ h => h) rfl rfl ?_
                              obtain ⟨v_29, hy83, hx78⟩ := bind_some hx78
                              obtain ⟨hc84, hy83⟩ := ix_some hy83
                              refine WO_index tbok rfl rfl rfl rfl rfl rfl rfl rfl (SlR.addr h44) hc84 ?_
                              refine WO_loadE tbok rfl rfl rfl rfl (fun _ h => St.sat h) h44 hy83 rfl ?_
                              refine WO_tree rfl ?_
                              refine WT_alt rfl ?_ ?_
                              · refine WO_alloc tbok [.int .i64 0, .int .i64 0] rfl rfl St_closed rfl rfl rfl rfl (fun b85 => ?_)
                                refine WO.cls (C' := St w0 m m42 [[⟨b1, 24, [.int .i64 p0_0, .int .i64 p0_1, .int .i64 p0_2, .slice a_p0_3 p0_3.length c_p0_3]⟩], L12, [], [⟨b23, 24, [.int .i64 y_6, .int .i64 y_7, .int .i64 y_8, .slice a19 ((y_9).length) c20]⟩], [], L40, L55, [⟨b72, 65, [.int .i64 v_22.1, .int .i64 v_22.2.1, .int .i64 v_22.2.2]⟩], [⟨b85, 67, [.int .i64 0, .int .i64 0]⟩]]) (fun _ h => h) ?_
                                refine WO_tree rfl ?_
                                refine WT_run ?_
                                refine WO_alloc tbok [.int .i64 0, .int .i64 0] rfl rfl St_closed rfl rfl rfl rfl (fun b86 => ?_)
                                refine WO.cls (C' := St w0 m m42 [[⟨b1, 24, [.int .i64 p0_0, .int .i64 p0_1, .int .i64 p0_2, .slice a_p0_3 p0_3.length c_p0_3]⟩], L12, [], [⟨b23, 24, [.int .i64 y_6, .int .i64 y_7, .int .i64 y_8, .slice a19 ((y_9).length) c20]⟩], [], L40, L55, [⟨b72, 65, [.int .i64 v_22.1, .int .i64 v_22.2.1, .int .i64 v_22.2.2]⟩], [⟨b85, 67, [.int .i64 0, .int .i64 0]⟩], [⟨b86, 67, [.int .i64 0, .int .i64 0]⟩]]) (fun _ h => h) ?_
                                refine WO_storeBd tbok 8 [.int .i64 v_28.1, .int .i64 v_28.2] rfl rfl rfl rfl rfl rfl rfl (fun _ h => St.take 8 h) ?_
                                refine WO.cls (C' := St w0 m m42 [[⟨b1, 24, [.int .i64 p0_0, .int .i64 p0_1, .int .i64 p0_2, .slice a_p0_3 p0_3.length c_p0_3]⟩], L12, [], [⟨b23, 24, [.int .i64 y_6, .int .i64 y_7, .int .i64 y_8, .slice a19 ((y_9).length) c20]⟩], [], L40, L55, [⟨b72, 65, [.int .i64 v_22.1, .int .i64 v_22.2.1, .int .i64 v_22.2.2]⟩], [⟨b85, 67, [.int .i64 v_28.1, .int .i64 v_28.2]⟩], [⟨b86, 67, [.int .i64 0, .int .i64 0]⟩]]) (fun _ h => h) ?_
                                refine WO_storeBd tbok 9 [.int .i64 v_29.1, .int .i64 v_29.2] rfl rfl rfl rfl rfl rfl rfl (fun _ h => St.take 8 h) ?_
                                refine WO.cls (C' := St w0 m m42 [[⟨b1, 24, [.int .i64 p0_0, .int .i64 p0_1, .int .i64 p0_2, .slice a_p0_3 p0_3.length c_p0_3]⟩], L12, [], [⟨b23, 24, [.int .i64 y_6, .int .i64 y_7, .int .i64 y_8, .slice a19 ((y_9).length) c20]⟩], [], L40, L55, [⟨b72, 65, [.int .i64 v_22.1, .int .i64 v_22.2.1, .int .i64 v_22.2.2]⟩], [⟨b85, 67, [.int .i64 v_28.1, .int .i64 v_28.2]⟩], [⟨b86, 67, [.int .i64 v_29.1, .int .i64 v_29.2]⟩]]) (fun _ h => h) ?_
                                refine WO_tree rfl ?_
                                refine WT_fin ?_
                                refine WO_end ?_
                                cases hx78
                                refine WK.sub ?_ (hk79 ⟨b85, b86⟩ trivial)
                                exact ⟨rfl, rfl, rfl, rfl, rfl, rfl, rfl, rfl, rfl, trivial⟩
                              · refine WT_alt rfl ?_ ?_
                                · refine WO_alloc tbok [.int .i64 0, .int .i64 0] rfl rfl St_closed rfl rfl rfl rfl (fun b87 => ?_)
                                  refine WO.cls (C' := St w0 m m42 [[⟨b1, 24, [.int .i64 p0_0, .int .i64 p0_1, .int .i64 p0_2, .slice a_p0_3 p0_3.length c_p0_3]⟩], L12, [], [⟨b23, 24, [.int .i64 y_6, .int .i64 y_7, .int .i64 y_8, .slice a19 ((y_9).length) c20]⟩], [], L40, L55, [⟨b72, 65, [.int .i64 v_22.1, .int .i64 v_22.2.1, .int .i64 v_22.2.2]⟩], [⟨b87, 67, [.int .i64 0, .int .i64 0]⟩]]) (fun _ h => h) ?_
                                  refine WO_tree rfl ?_
                                  refine WT_run ?_
                                  refine WO_alloc tbok [.int .i64 0, .int .i64 0] rfl rfl St_closed rfl rfl rfl rfl (fun b88 => ?_)
                                  refine WO.cls (C' := St w0 m m42 [[⟨b1, 24, [.int .i64 p0_0, .int .i64 p0_1, .int .i64 p0_2, .slice a_p0_3 p0_3.length c_p0_3]⟩], L12, [], [⟨b23, 24, [.int .i64 y_6, .int .i64 y_7, .int .i64 y_8, .slice a19 ((y_9).length) c20]⟩], [], L40, L55, [⟨b72, 65, [.int .i64 v_22.1, .int .i64 v_22.2.1, .int .i64 v_22.2.2]⟩], [⟨b87, 67, [.int .i64 0, .int .i64 0]⟩], [⟨b88, 67, [.int .i64 0, .int .i64 0]⟩]]) (fun _ h => h) ?_
                                  refine WO_storeBd tbok 9 [.int .i64 v_28.1, .int .i64 v_28.2] rfl rfl rfl rfl rfl rfl rfl (fun _ h => St.take 8 h) ?_
                                  refine WO.cls (C' := St w0 m m42 [[⟨b1, 24, [.int .i64 p0_0, .int .i64 p0_1, .int .i64 p0_2, .slice a_p0_3 p0_3.length c_p0_3]⟩], L12, [], [⟨b23, 24, [.int .i64 y_6, .int .i64 y_7, .int .i64 y_8, .slice a19 ((y_9).length) c20]⟩], [], L40, L55, [⟨b72, 65, [.int .i64 v_22.1, .int .i64 v_22.2.1, .int .i64 v_22.2.2]⟩], [⟨b87, 67, [.int .i64 0, .int .i64 0]⟩], [⟨b88, 67, [.int .i64 v_28.1, .int .i64 v_28.2]⟩]]) (fun _ h => h) ?_
                                  refine WO_storeBd tbok 8 [.int .i64 v_29.1, .int .i64 v_29.2] rfl rfl rfl rfl rfl rfl rfl (fun _ h => St.take 8 h) ?_
                                  refine WO.cls (C' := St w0 m m42 [[⟨b1, 24, [.int .i64 p0_0, .int .i64 p0_1, .int .i64 p0_2, .slice a_p0_3 p0_3.length c_p0_3]⟩], L12, [], [⟨b23, 24, [.int .i64 y_6, .int .i64 y_7, .int .i64 y_8, .slice a19 ((y_9).length) c20]⟩], [], L40, L55, [⟨b72, 65, [.int .i64 v_22.1, .int .i64 v_22.2.1, .int .i64 v_22.2.2]⟩], [⟨b87, 67, [.int .i64 v_29.1, .int .i64 v_29.2]⟩], [⟨b88, 67, [.int .i64 v_28.1, .int .i64 v_28.2]⟩]]) (fun _ h => h) ?_
                                  refine WO_tree rfl ?_
                                  refine WT_fin ?_
                                  refine WO_end ?_
                                  refine WK.cls (fun _ h => h.perm (Ls' := [[⟨b1, 24, [.int .i64 p0_0, .int .i64 p0_1, .int .i64 p0_2, .slice a_p0_3 p0_3.length c_p0_3]⟩], L12, [], [⟨b23, 24, [.int .i64 y_6, .int .i64 y_7, .int .i64 y_8, .slice a19 ((y_9).length) c20]⟩], [], L40, L55, [⟨b72, 65, [.int .i64 v_22.1, .int .i64 v_22.2.1, .int .i64 v_22.2.2]⟩], [⟨b88, 67, [.int .i64 v_28.1, .int .i64 v_28.2]⟩], [⟨b87, 67, [.int .i64 v_29.1, .int .i64 v_29.2]⟩]]) (List.Perm.flatten (List.Perm.cons _ (List.Perm.cons _ (List.Perm.cons _ (List.Perm.cons _ (List.Perm.cons _ (List.Perm.cons _ (List.Perm.cons _ (List.Perm.cons _ (List.Perm.swap _ _ _))))))))))) ?_
                                  cases hx78
                                  refine WK.sub ?_ (hk79 ⟨b88, b87⟩ trivial)
                                  exact ⟨rfl, rfl, rfl, rfl, rfl, rfl, rfl, rfl, rfl, trivial⟩
                                · exact WT_none
                        · refine WK_region ?_
                          refine WO_pure tbok 1 [(2, .pointer (some ⟨b1, 0, none⟩)), (4, .bool false), (5, .slice a8 ((y_3).length) c9), (12, .slice a36 ((y_13).length) c37), (17, .pointer (some ⟨b72, 0, none⟩)), (114, .slice a53 ((y_18).length) c54), (115, .int .i64 ((y_18).length : Int)), (116, .int .i64 s_21), (120, .pointer (some ⟨b72, 2, none⟩))] rfl ⟨rfl, rfl, rfl, rfl, rfl, rfl, rfl, rfl, rfl, trivial⟩ ?_
                          refine WO_loadB tbok 7 rfl rfl rfl rfl (fun _ h => h) rfl rfl ?_
                          refine WO_pure tbok 2 [(2, .pointer (some ⟨b1, 0, none⟩)), (4, .bool false), (5, .slice a8 ((y_3).length) c9), (12, .slice a36 ((y_13).length) c37), (17, .pointer (some ⟨b72, 0, none⟩)), (114, .slice a53 ((y_18).length) c54), (115, .int .i64 ((y_18).length : Int)), (116, .int .i64 s_21), (123, .bool (v_22.2.2 != 0))] rfl ⟨rfl, rfl, rfl, rfl, rfl, rfl, rfl, rfl, rfl, trivial⟩ ?_
                          refine WO_split (d := 123) (b := v_22.2.2 != 0) rfl (fun hb89 => ?_) (fun hb89 => ?_)
                          · have hx73 := ifT hb89 hx73
                            refine WO_pure tbok 17 [(2, .pointer (some ⟨b1, 0, none⟩)), (4, .bool false), (5, .slice a8 ((y_3).length) c9), (12, .slice a36 ((y_13).length) c37), (17, .pointer (some ⟨b72, 0, none⟩)), (114, .slice a53 ((y_18).length) c54), (115, .int .i64 ((y_18).length : Int)), (116, .int .i64 s_21), (140, .bool true)] rfl ⟨rfl, rfl, rfl, rfl, rfl, rfl, rfl, rfl, rfl, trivial⟩ ?_
                            refine WO_end ?_
                            cases hx73
                            refine WK.sub ?_ (WK.cls (fun _ h => h) hk74)
                            exact ⟨rfl, rfl, rfl, rfl, rfl, rfl, rfl, rfl, rfl, trivial⟩
                          · have hx73 := ifF hb89 hx73
                            refine WO_pure tbok 1 [(2, .pointer (some ⟨b1, 0, none⟩)), (4, .bool false), (5, .slice a8 ((y_3).length) c9), (12, .slice a36 ((y_13).length) c37), (17, .pointer (some ⟨b72, 0, none⟩)), (114, .slice a53 ((y_18).length) c54), (115, .int .i64 ((y_18).length : Int)), (116, .int .i64 s_21), (123, .bool false), (124, .pointer (some ⟨b72, 0, none⟩))] rfl ⟨rfl, rfl, rfl, rfl, rfl, rfl, rfl, rfl, rfl, rfl, trivial⟩ ?_
                            refine WO_loadB tbok 7 rfl rfl rfl rfl (fun _ h => h) rfl rfl ?_
                            refine WO_pure tbok 1 [(2, .pointer (some ⟨b1, 0, none⟩)), (4, .bool false), (5, .slice a8 ((y_3).length) c9), (12, .slice a36 ((y_13).length) c37), (17, .pointer (some ⟨b72, 0, none⟩)), (114, .slice a53 ((y_18).length) c54), (115, .int .i64 ((y_18).length : Int)), (116, .int .i64 s_21), (123, .bool false), (125, .int .i64 v_22.1), (126, .pointer (some ⟨b72, 1, none⟩))] rfl ⟨rfl, rfl, rfl, rfl, rfl, rfl, rfl, rfl, rfl, rfl, rfl, trivial⟩ ?_
                            refine WO_loadB tbok 7 rfl rfl rfl rfl (fun _ h => h) rfl rfl ?_
                            refine WO_pure tbok 4 [(2, .pointer (some ⟨b1, 0, none⟩)), (4, .bool false), (5, .slice a8 ((y_3).length) c9), (12, .slice a36 ((y_13).length) c37), (17, .pointer (some ⟨b72, 0, none⟩)), (114, .slice a53 ((y_18).length) c54), (115, .int .i64 ((y_18).length : Int)), (116, .int .i64 s_21), (131, .bool (decide ((if v_22.2.1 < v_22.1 then v_22.2.1 else v_22.1) < 0)))] rfl ⟨rfl, rfl, rfl, rfl, rfl, rfl, rfl, rfl, rfl, trivial⟩ ?_
                            refine WO_split (d := 131) (b := decide ((if v_22.2.1 < v_22.1 then v_22.2.1 else v_22.1) < 0)) rfl (fun hb90 => ?_) (fun hb90 => ?_)
                            · have hx73 := ifT hb90 hx73
                              refine WO_pure tbok 9 [(2, .pointer (some ⟨b1, 0, none⟩)), (4, .bool false), (5, .slice a8 ((y_3).length) c9), (12, .slice a36 ((y_13).length) c37), (17, .pointer (some ⟨b72, 0, none⟩)), (114, .slice a53 ((y_18).length) c54), (115, .int .i64 ((y_18).length : Int)), (116, .int .i64 s_21), (140, .bool true)] rfl ⟨rfl, rfl, rfl, rfl, rfl, rfl, rfl, rfl, rfl, trivial⟩ ?_
                              refine WO_end ?_
                              cases hx73
                              refine WK.sub ?_ (WK.cls (fun _ h => h) hk74)
                              exact ⟨rfl, rfl, rfl, rfl, rfl, rfl, rfl, rfl, rfl, trivial⟩
                            · have hx73 := ifF hb90 hx73
                              refine WO_pure tbok 1 [(2, .pointer (some ⟨b1, 0, none⟩)), (4, .bool false), (5, .slice a8 ((y_3).length) c9), (12, .slice a36 ((y_13).length) c37), (17, .pointer (some ⟨b72, 0, none⟩)), (114, .slice a53 ((y_18).length) c54), (115, .int .i64 ((y_18).length : Int)), (116, .int .i64 s_21), (131, .bool false), (132, .pointer (some ⟨b72, 0, none⟩))] rfl ⟨rfl, rfl, rfl, rfl, rfl, rfl, rfl, rfl, rfl, rfl, trivial⟩ ?_
                              refine WO_loadB tbok 7 rfl rfl rfl rfl (fun _ h => h) rfl rfl ?_
                              refine WO_pure tbok 1 [(2, .pointer (some ⟨b1, 0, none⟩)), (4, .bool false), (5, .slice a8 ((y_3).length) c9), (12, .slice a36 ((y_13).length) c37), (17, .pointer (some ⟨b72, 0, none⟩)), (114, .slice a53 ((y_18).length) c54), (115, .int .i64 ((y_18).length : Int)), (116, .int .i64 s_21), (131, .bool false), (133, .int .i64 v_22.1), (134, .pointer (some ⟨b72, 1, none⟩))] rfl ⟨rfl, rfl, rfl, rfl, rfl, rfl, rfl, rfl, rfl, rfl, rfl, trivial⟩ ?_
                              refine WO_loadB tbok 7 rfl rfl rfl rfl (fun _ h => h) rfl rfl ?_
                              refine WO_pure tbok 5 [(2, .pointer (some ⟨b1, 0, none⟩)), (4, .bool false), (5, .slice a8 ((y_3).length) c9), (12, .slice a36 ((y_13).length) c37), (17, .pointer (some ⟨b72, 0, none⟩)), (114, .slice a53 ((y_18).length) c54), (115, .int .i64 ((y_18).length : Int)), (116, .int .i64 s_21), (140, .bool (decide (((y_3).length : Int) ≤ (if v_22.1 < v_22.2.1 then v_22.2.1 else v_22.1))))] rfl ⟨rfl, rfl, rfl, rfl, rfl, rfl, rfl, rfl, rfl, trivial⟩ ?_
                              refine WO_end ?_
                              cases hx73
                              refine WK.sub ?_ (WK.cls (fun _ h => h) hk74)
                              exact ⟨rfl, rfl, rfl, rfl, rfl, rfl, rfl, rfl, rfl, trivial⟩
                      · have hm63 := ifF hb69 hm63
                        refine WK_exit rfl ?_
                        cases hm63
                        refine WK.sub ?_ (WK.cls (fun _ h => h) (hk62 ((), ()) (hd67 _ rfl)))
                        exact ⟨rfl, trivial⟩
                · refine WK_region ?_
                  refine WO_pure tbok 3 [(2, .pointer (some ⟨b1, 0, none⟩)), (4, .bool false), (5, .slice a8 ((y_3).length) c9), (12, .slice a36 ((y_13).length) c37), (15, .slice a53 ((y_18).length) c54), (107, .bool (y_19 != 0))] rfl ⟨rfl, rfl, rfl, rfl, rfl, rfl, trivial⟩ ?_
                  refine WO_split (d := 107) (b := y_19 != 0) rfl (fun hb91 => ?_) (fun hb91 => ?_)
                  · have hx57 := ifT hb91 hx57
                    refine WO_pure tbok 6 [(2, .pointer (some ⟨b1, 0, none⟩)), (4, .bool false), (5, .slice a8 ((y_3).length) c9), (12, .slice a36 ((y_13).length) c37), (15, .slice a53 ((y_18).length) c54), (113, .bool true)] rfl ⟨rfl, rfl, rfl, rfl, rfl, rfl, trivial⟩ ?_
                    refine WO_end ?_
                    cases hx57
                    refine WK.sub ?_ (WK.cls (fun _ h => h) hk58)
                    exact ⟨rfl, rfl, rfl, rfl, rfl, rfl, trivial⟩
                  · have hx57 := ifF hb91 hx57
                    refine WO_pure tbok 6 [(2, .pointer (some ⟨b1, 0, none⟩)), (4, .bool false), (5, .slice a8 ((y_3).length) c9), (12, .slice a36 ((y_13).length) c37), (15, .slice a53 ((y_18).length) c54), (113, .bool (((y_18).length : Int) != ((y_3).length : Int)))] rfl ⟨rfl, rfl, rfl, rfl, rfl, rfl, trivial⟩ ?_
                    refine WO_end ?_
                    cases hx57
                    refine WK.sub ?_ (WK.cls (fun _ h => h) hk58)
                    exact ⟨rfl, rfl, rfl, rfl, rfl, rfl, trivial⟩
            · refine WK_region ?_
              refine WO_pure tbok 4 [(2, .pointer (some ⟨b1, 0, none⟩)), (4, .bool false), (5, .slice a8 ((y_3).length) c9), (6, .slice a10 ((y_4).length) c11), (12, .slice a36 ((y_13).length) c37), (13, .slice a38 ((y_14).length) c39), (94, .bool (decide (64 < ((y_3).length : Int))))] rfl ⟨rfl, rfl, rfl, rfl, rfl, rfl, rfl, trivial⟩ ?_
              refine WO_split (d := 94) (b := decide (64 < ((y_3).length : Int))) rfl (fun hb92 => ?_) (fun hb92 => ?_)
              · have hx49 := ifT hb92 hx49
                refine WO_pure tbok 1 [(2, .pointer (some ⟨b1, 0, none⟩)), (4, .bool false), (5, .slice a8 ((y_3).length) c9), (6, .slice a10 ((y_4).length) c11), (12, .slice a36 ((y_13).length) c37), (13, .slice a38 ((y_14).length) c39), (94, .bool true)] rfl ⟨rfl, rfl, rfl, rfl, rfl, rfl, rfl, trivial⟩ ?_
                refine WO_skip rfl rfl ?_
                refine WO_pure tbok 2 [(2, .pointer (some ⟨b1, 0, none⟩)), (4, .bool false), (5, .slice a8 ((y_3).length) c9), (6, .slice a10 ((y_4).length) c11), (12, .slice a36 ((y_13).length) c37), (13, .slice a38 ((y_14).length) c39), (98, .bool true)] rfl ⟨rfl, rfl, rfl, rfl, rfl, rfl, rfl, trivial⟩ ?_
                refine WO_end ?_
                cases hx49
                refine WK.sub ?_ (WK.cls (fun _ h => h) hk50)
                exact ⟨rfl, rfl, rfl, rfl, rfl, rfl, rfl, trivial⟩
              · have hx49 := ifF hb92 hx49
                refine WO_pure tbok 1 [(2, .pointer (some ⟨b1, 0, none⟩)), (4, .bool false), (5, .slice a8 ((y_3).length) c9), (6, .slice a10 ((y_4).length) c11), (12, .slice a36 ((y_13).length) c37), (13, .slice a38 ((y_14).length) c39), (94, .bool false), (95, .slice a10 ((y_4).length) c11)] rfl ⟨rfl, rfl, rfl, rfl, rfl, rfl, rfl, rfl, trivial⟩ ?_
                obtain ⟨y_30, hc93, hx49⟩ := bind_some hx49
                refine WO_call0 (.bool y_30) rfl rfl trivial rfl rfl rfl rfl St_closed ⟨24, #[], #[], rfl, callable_24, fun w hw => ⟨_, hw.sat, fiducialtop_bDistinct_walk (((h17.mono (mono_FE _) hle30).mono (mono_FE _) hle33).mono (mono_FE _) hle43) hc93⟩⟩ ?_
                refine WO_pure tbok 2 [(2, .pointer (some ⟨b1, 0, none⟩)), (4, .bool false), (5, .slice a8 ((y_3).length) c9), (6, .slice a10 ((y_4).length) c11), (12, .slice a36 ((y_13).length) c37), (13, .slice a38 ((y_14).length) c39), (98, .bool (!y_30))] rfl ⟨rfl, rfl, rfl, rfl, rfl, rfl, rfl, trivial⟩ ?_
                refine WO_end ?_
                cases hx49
                refine WK.sub ?_ (WK.cls (fun _ h => h) hk50)
                exact ⟨rfl, rfl, rfl, rfl, rfl, rfl, rfl, trivial⟩
        · refine WK_region ?_
          refine WO_pure tbok 9 [(2, .pointer (some ⟨b1, 0, none⟩)), (4, .bool false), (5, .slice a8 ((y_3).length) c9), (6, .slice a10 ((y_4).length) c11), (12, .slice a36 ((y_13).length) c37), (13, .slice a38 ((y_14).length) c39), (70, .bool ((w64 ((w64 ((w64 (y_5 + y_10)) + y_12)) + y_15)) != 0))] rfl ⟨rfl, rfl, rfl, rfl, rfl, rfl, rfl, trivial⟩ ?_
          refine WO_split (d := 70) (b := (w64 ((w64 ((w64 (y_5 + y_10)) + y_12)) + y_15)) != 0) rfl (fun hb94 => ?_) (fun hb94 => ?_)
          · have hx46 := ifT hb94 hx46
            refine WO_pure tbok 20 [(2, .pointer (some ⟨b1, 0, none⟩)), (4, .bool false), (5, .slice a8 ((y_3).length) c9), (6, .slice a10 ((y_4).length) c11), (12, .slice a36 ((y_13).length) c37), (13, .slice a38 ((y_14).length) c39), (90, .bool true)] rfl ⟨rfl, rfl, rfl, rfl, rfl, rfl, rfl, trivial⟩ ?_
            refine WO_end ?_
            cases hx46
            refine WK.sub ?_ (WK.cls (fun _ h => h) hk47)
            exact ⟨rfl, rfl, rfl, rfl, rfl, rfl, rfl, trivial⟩
          · have hx46 := ifF hb94 hx46
            refine WO_pure tbok 7 [(2, .pointer (some ⟨b1, 0, none⟩)), (4, .bool false), (5, .slice a8 ((y_3).length) c9), (6, .slice a10 ((y_4).length) c11), (12, .slice a36 ((y_13).length) c37), (13, .slice a38 ((y_14).length) c39), (77, .bool (((y_3).length : Int) != ((y_4).length : Int)))] rfl ⟨rfl, rfl, rfl, rfl, rfl, rfl, rfl, trivial⟩ ?_
            refine WO_split (d := 77) (b := ((y_3).length : Int) != ((y_4).length : Int)) rfl (fun hb95 => ?_) (fun hb95 => ?_)
            · have hx46 := ifT hb95 hx46
              refine WO_pure tbok 13 [(2, .pointer (some ⟨b1, 0, none⟩)), (4, .bool false), (5, .slice a8 ((y_3).length) c9), (6, .slice a10 ((y_4).length) c11), (12, .slice a36 ((y_13).length) c37), (13, .slice a38 ((y_14).length) c39), (90, .bool true)] rfl ⟨rfl, rfl, rfl, rfl, rfl, rfl, rfl, trivial⟩ ?_
              refine WO_end ?_
              cases hx46
              refine WK.sub ?_ (WK.cls (fun _ h => h) hk47)
              exact ⟨rfl, rfl, rfl, rfl, rfl, rfl, rfl, trivial⟩
            · have hx46 := ifF hb95 hx46
              refine WO_pure tbok 7 [(2, .pointer (some ⟨b1, 0, none⟩)), (4, .bool false), (5, .slice a8 ((y_3).length) c9), (6, .slice a10 ((y_4).length) c11), (12, .slice a36 ((y_13).length) c37), (13, .slice a38 ((y_14).length) c39), (84, .bool (((y_13).length : Int) != ((y_14).length : Int)))] rfl ⟨rfl, rfl, rfl, rfl, rfl, rfl, rfl, trivial⟩ ?_
              refine WO_split (d := 84) (b := ((y_13).length : Int) != ((y_14).length : Int)) rfl (fun hb96 => ?_) (fun hb96 => ?_)
              · have hx46 := ifT hb96 hx46
                refine WO_pure tbok 6 [(2, .pointer (some ⟨b1, 0, none⟩)), (4, .bool false), (5, .slice a8 ((y_3).length) c9), (6, .slice a10 ((y_4).length) c11), (12, .slice a36 ((y_13).length) c37), (13, .slice a38 ((y_14).length) c39), (90, .bool true)] rfl ⟨rfl, rfl, rfl, rfl, rfl, rfl, rfl, trivial⟩ ?_
                refine WO_end ?_
                cases hx46
                refine WK.sub ?_ (WK.cls (fun _ h => h) hk47)
                exact ⟨rfl, rfl, rfl, rfl, rfl, rfl, rfl, trivial⟩
              · have hx46 := ifF hb96 hx46
                refine WO_pure tbok 6 [(2, .pointer (some ⟨b1, 0, none⟩)), (4, .bool false), (5, .slice a8 ((y_3).length) c9), (6, .slice a10 ((y_4).length) c11), (12, .slice a36 ((y_13).length) c37), (13, .slice a38 ((y_14).length) c39), (90, .bool (((y_3).length : Int) != ((y_13).length : Int)))] rfl ⟨rfl, rfl, rfl, rfl, rfl, rfl, rfl, trivial⟩ ?_
                refine WO_end ?_
                cases hx46
                refine WK.sub ?_ (WK.cls (fun _ h => h) hk47)
                exact ⟨rfl, rfl, rfl, rfl, rfl, rfl, rfl, trivial⟩
    · refine WK_region ?_
      refine WO_loadB tbok 0 rfl rfl rfl rfl (fun _ h => h) rfl rfl ?_
      obtain ⟨y_31, hc97, hx4⟩ := bind_some hx4
      refine WO_call0 (.int .i64 y_31) rfl rfl trivial rfl rfl rfl rfl St_closed ⟨7, #[], #[], rfl, callable_7, fun w hw => ⟨_, hw.sat, fiducialref13_Check_walk h_p0_3 hc97⟩⟩ ?_
      refine WO_pure tbok 2 [(1, .slice a_p1 p1.length c_p1), (2, .pointer (some ⟨b1, 0, none⟩)), (4, .bool false), (25, .bool (y_31 != 0))] rfl ⟨rfl, rfl, rfl, rfl, trivial⟩ ?_
      refine WO_split (d := 25) (b := y_31 != 0) rfl (fun hb98 => ?_) (fun hb98 => ?_)
      · have hx4 := ifT hb98 hx4
        refine WO_pure tbok 9 [(1, .slice a_p1 p1.length c_p1), (2, .pointer (some ⟨b1, 0, none⟩)), (4, .bool false), (33, .bool true)] rfl ⟨rfl, rfl, rfl, rfl, trivial⟩ ?_
        refine WO_skip rfl rfl ?_
        refine WO_pure tbok 2 [(1, .slice a_p1 p1.length c_p1), (2, .pointer (some ⟨b1, 0, none⟩)), (4, .bool false), (37, .bool true)] rfl ⟨rfl, rfl, rfl, rfl, trivial⟩ ?_
        refine WO_end ?_
        cases hx4
        refine WK.sub ?_ (WK.cls (fun _ h => h) hk5)
        exact ⟨rfl, rfl, rfl, rfl, trivial⟩
      · have hx4 := ifF hb98 hx4
        refine WO_pure tbok 1 [(1, .slice a_p1 p1.length c_p1), (2, .pointer (some ⟨b1, 0, none⟩)), (4, .bool false), (25, .bool false), (26, .pointer (some ⟨b1, 0, none⟩))] rfl ⟨rfl, rfl, rfl, rfl, rfl, trivial⟩ ?_
        refine WO_loadB tbok 0 rfl rfl rfl rfl (fun _ h => h) rfl rfl ?_
        refine WO_pure tbok 1 [(1, .slice a_p1 p1.length c_p1), (2, .pointer (some ⟨b1, 0, none⟩)), (4, .bool false), (25, .bool false), (27, .int .i64 p0_0), (28, .pointer (some ⟨b1, 1, none⟩))] rfl ⟨rfl, rfl, rfl, rfl, rfl, rfl, trivial⟩ ?_
        refine WO_loadB tbok 0 rfl rfl rfl rfl (fun _ h => h) rfl rfl ?_
        refine WO_pure tbok 4 [(1, .slice a_p1 p1.length c_p1), (2, .pointer (some ⟨b1, 0, none⟩)), (4, .bool false), (33, .bool (decide (8 < (if p0_0 < p0_1 then p0_1 else p0_0))))] rfl ⟨rfl, rfl, rfl, rfl, trivial⟩ ?_
        refine WO_split (d := 33) (b := decide (8 < (if p0_0 < p0_1 then p0_1 else p0_0))) rfl (fun hb99 => ?_) (fun hb99 => ?_)
        · have hx4 := ifT hb99 hx4
          refine WO_pure tbok 1 [(1, .slice a_p1 p1.length c_p1), (2, .pointer (some ⟨b1, 0, none⟩)), (4, .bool false), (33, .bool true)] rfl ⟨rfl, rfl, rfl, rfl, trivial⟩ ?_
          refine WO_skip rfl rfl ?_
          refine WO_pure tbok 2 [(1, .slice a_p1 p1.length c_p1), (2, .pointer (some ⟨b1, 0, none⟩)), (4, .bool false), (37, .bool true)] rfl ⟨rfl, rfl, rfl, rfl, trivial⟩ ?_
          refine WO_end ?_
          cases hx4
          refine WK.sub ?_ (WK.cls (fun _ h => h) hk5)
          exact ⟨rfl, rfl, rfl, rfl, trivial⟩
        · have hx4 := ifF hb99 hx4
          refine WO_pure tbok 1 [(1, .slice a_p1 p1.length c_p1), (2, .pointer (some ⟨b1, 0, none⟩)), (4, .bool false), (33, .bool false), (34, .slice a_p1 p1.length c_p1)] rfl ⟨rfl, rfl, rfl, rfl, rfl, trivial⟩ ?_
          obtain ⟨y_32, hc100, hx4⟩ := bind_some hx4
          refine WO_call0 (.int .i64 y_32) rfl rfl trivial rfl rfl rfl rfl St_closed ⟨20, #[], #[], rfl, callable_20, fun w hw => ⟨_, hw.sat, descriptor_Check_walk h_p1 hc100⟩⟩ ?_
          refine WO_pure tbok 2 [(1, .slice a_p1 p1.length c_p1), (2, .pointer (some ⟨b1, 0, none⟩)), (4, .bool false), (37, .bool (y_32 != 0))] rfl ⟨rfl, rfl, rfl, rfl, trivial⟩ ?_
          refine WO_end ?_
          cases hx4
          refine WK.sub ?_ (WK.cls (fun _ h => h) hk5)
          exact ⟨rfl, rfl, rfl, rfl, trivial⟩
end Go.Proofs.Ytbolefkhmfbnlaa
